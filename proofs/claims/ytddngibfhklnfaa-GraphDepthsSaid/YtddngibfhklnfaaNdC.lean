/- The contract of graph.Find. -/
import Derived.Test.YtddngibfhklnfaaNdB
namespace Go.Proofs.Ytddngibfhklnfaa
open Go.RowKit Go.Fb
abbrev ndZ : Array Value := #[.int .i64 0, .int .i64 0, .slice none 0 0, .slice none 0 0, .int .i64 0, .int .i64 0, .int .i64 0, .int .i64 0, .int .i64 0, .int .i64 0, .int .i64 0, .int .i64 0, .int .i64 0]
set_option maxRecDepth 100000 in
theorem findf_any (id : Int) (gk : Nat) (m : Ndm) (w : World) (hb : Blk w gk 3 #[.int .i64 id]) : Calls Try.prog 60 #[.agg (ndA m.1 m.2.1 m.2.2), .pointer (some ⟨gk, 0, none⟩)] w fun e w' => e = .returned (.bool (decide (m.1.id = id))) ∧ Fr w.heap.size [] w w' := by
  have B := Lib.hid (hb.alloc (.cells (ndA m.1 m.2.1 m.2.2) 38))
  have f := Lib.hid ((Fr.refl w.heap.size [] w).alloc (Nat.le_refl _) (.cells (ndA m.1 m.2.1 m.2.2) 38))
  have k0 := B.out.cell 0
  simp at k0
  obtain ⟨x, sf, sp⟩ := m
  simp only at *
  obtain ⟨b, hbv⟩ : ∃ b, b = decide (x.id = id) := ⟨_, rfl⟩
  have HB := Lib.hid hbv
  have hlt := hb.lt
  rw [← hbv]
  clear hb hbv
  go_enter Try.func60, Try.ntmps60
  go_wp2_with fail
  go_ret
  exact ⟨by rw [HB.out]; simp; by_cases h : x.id = id <;> simp [h], f.out⟩
/-- The first node of a number. -/
def findN (L : List Nd) (id : Int) : Option Nd := L.find? fun x => decide (x.id = id)
def FindOut (L : List Nd) (id : Int) (w : World) (e : Ending) (w' : World) : Prop :=
  ((findN L id = none ∧ e = .returned (.tuple #[.agg ndZ, .bool false])) ∨ ∃ x sf sp, findN L id = some x ∧ e = .returned (.tuple #[.agg (ndA x sf sp), .bool true]) ∧ NdIn w' w'.heap.size (x, sf, sp)) ∧ Fr w.heap.size [] w w'
theorem findN_none {M : List Ndm} {id : Int} (h : ∀ m ∈ M, decide (m.1.id = id) = false) : findN (M.map (·.1)) id = none := by
  unfold findN
  rw [List.find?_eq_none]
  intro x hx
  obtain ⟨m, hm, rfl⟩ := List.mem_map.1 hx
  simpa using h m hm
theorem findN_some : ∀ {M : List Ndm} {id : Int} {k : Nat} {m : Ndm}, M[k]? = some m → decide (m.1.id = id) = true → (∀ j y, j < k → M[j]? = some y → decide (y.1.id = id) = false) → findN (M.map (·.1)) id = some m.1
  | [], _, k, m, h, _, _ => by simp at h
  | y :: M, id, 0, m, h, hp, _ => by
    simp at h
    subst h
    unfold findN
    rw [List.map_cons, List.find?_cons, hp]
  | y :: M, id, k + 1, m, h, hp, hb => by
    have h0 := hb 0 y (by omega) rfl
    unfold findN
    rw [List.map_cons, List.find?_cons, h0]
    exact findN_some (M := M) (k := k) (by simpa using h) hp fun j z hj hz => hb (j + 1) z (by omega) (by simpa using hz)
/-- Nodes that are not too long. -/
def Small (M : List Ndm) : Prop := M.length ≤ 1000000 ∧ ∀ m ∈ M, m.1.fr.length ≤ 1000000 ∧ m.1.pg.length ≤ 1000000
set_option maxRecDepth 100000 in
set_option maxHeartbeats 4000000 in
theorem find_any (id : Int) (A : Option Addr) (c B n : Nat) (M : List Ndm) (w : World) (h : Nds w B A n M) (hB : B ≤ w.heap.size) (hs : Small M) :
    Calls Try.prog 25 #[.slice A n c, .int .i64 id] w (FindOut (M.map (·.1)) id w) := by
  have BK0 := (Blk.new w 3 #[.int .i64 id]).alloc (.cells ndZ 38)
  have BR0 := Blk.new (w.alloc (.cells #[.int .i64 id] 3)) 38 ndZ
  rw [World.size_alloc] at BR0
  have F0 := ((Fr.refl w.heap.size [] w).alloc (Nat.le_refl _) (.cells #[.int .i64 id] 3)).alloc (by simp) (.cells ndZ 38)
  have HH := Lib.hid h
  have HS := Lib.hid hs
  have hn : n ≤ 1000000 := by rw [h.num]; exact hs.1
  have BK := Lib.hid BK0
  have BR := Lib.hid BR0
  have FA := Lib.hid F0
  have HN := Lib.hid h.num
  clear h hs BK0 BR0 F0
  go_enter Try.func25, Try.ntmps25
  go_wp2_with fail
  generalize (w.alloc _).alloc _ = w1 at *
  have hent := enters_of Try.func60 (by kernel_rfl) rfl
  have HI := Lib.hid (nindex_any 60 #[.pointer (some ⟨w.heap.size, 0, none⟩)] (fun x => decide (x.id = id)) A c B n M w1 hent (fun m w' _ hf => findf_any id w.heap.size m w' (BK.out.fr hf BK.out.lt (by simp))) hn (HH.out.frw FA.out hB (by simp)) (Nat.le_trans hB FA.out.size))
  refine HI.out.mono ?_
  rintro e w2 ⟨i, rfl, hi, f2⟩
  have F2 := Lib.hid (FA.out.trans (f2.mono (B' := w.heap.size) (L' := []) FA.out.size (by simp)))
  have BR2 := Lib.hid (BR.out.fr f2 BR.out.lt (by simp))
  clear f2 HI
  rcases hi with ⟨rfl, hall⟩ | ⟨k, m, rfl, hx, hp, hbf⟩
  · have HFN := Lib.hid (findN_none hall)
    clear hall
    have s0 := BR2.out.cell 0
    have s1 := BR2.out.cell 1
    have s2 := BR2.out.cell 2
    have s3 := BR2.out.cell 3
    have s4 := BR2.out.cell 4
    have s5 := BR2.out.cell 5
    have s6 := BR2.out.cell 6
    have s7 := BR2.out.cell 7
    have s8 := BR2.out.cell 8
    have s9 := BR2.out.cell 9
    have s10 := BR2.out.cell 10
    have s11 := BR2.out.cell 11
    have s12 := BR2.out.cell 12
    simp at s0 s1 s2 s3 s4 s5 s6 s7 s8 s9 s10 s11 s12
    have z0 := BR2.out.frozen 0
    have z1 := BR2.out.frozen 1
    have z2 := BR2.out.frozen 2
    have z3 := BR2.out.frozen 3
    have z4 := BR2.out.frozen 4
    have z5 := BR2.out.frozen 5
    have z6 := BR2.out.frozen 6
    have z7 := BR2.out.frozen 7
    have z8 := BR2.out.frozen 8
    have z9 := BR2.out.frozen 9
    have z10 := BR2.out.frozen 10
    have z11 := BR2.out.frozen 11
    have z12 := BR2.out.frozen 12
    go_wp2_with fail
    have BE := Lib.hid (blk_setNd BR2.out (.int .i64 0) (.int .i64 0) (.slice none 0 0) (.slice none 0 0) (.int .i64 0) (.int .i64 0) (.int .i64 0) (.int .i64 0) (.int .i64 0) (.int .i64 0) (.int .i64 0) (.int .i64 0) (.int .i64 0))
    have hgr : w.heap.size ≤ w.heap.size + 1 := by omega
    have FE := Lib.hid (fr_setNd F2.out (g := w.heap.size + 1) (.inl hgr) (.int .i64 0) (.int .i64 0) (.slice none 0 0) (.slice none 0 0) (.int .i64 0) (.int .i64 0) (.int .i64 0) (.int .i64 0) (.int .i64 0) (.int .i64 0) (.int .i64 0) (.int .i64 0) (.int .i64 0))
    exact bodyPost_ret (results_cell_row_tmp rfl _ _ (w.heap.size + 1) 38 ndZ (0, 0) _ rfl BE.out Try.underlying38 rfl (by kernel_rfl)) rfl ⟨.inl ⟨HFN.out, rfl⟩, FE.out⟩
  · have HFN := Lib.hid (findN_some hx hp hbf)
    have hkn : k < n := by
      rw [HN.out]
      rcases Nat.lt_or_ge k M.length with h | h
      · exact h
      · rw [List.getElem?_eq_none h] at hx; cases hx
    have hki : (k : Int) < (n : Int) := by omega
    have hk0 : (0 : Int) ≤ (k : Int) := by omega
    have hk1 : decide ((k : Int) < 0) = false := decide_eq_false (by omega)
    have HND := HH.out.frw F2.out hB (by simp)
    obtain ⟨b1, o1, rfl, hb1, hc1⟩ := HND.get hx
    have HIN := Lib.hid (HND.inn m (List.mem_of_getElem? hx))
    have hsm := HS.out.2 m (List.mem_of_getElem? hx)
    obtain ⟨x, sf, sp⟩ := m
    obtain ⟨g0, g1, g2, g3, g4, g5, g6, g7, g8, g9, g10, g11, g12⟩ := ndL_get (x, sf, sp)
    have HOW := Lib.hid (own_any x sf sp B w2 HIN.out (Nat.le_trans hB F2.out.size) hsm.1 hsm.2)
    have p0 := hc1 0 _ g0
    have p1 := hc1 1 _ g1
    have p2 := hc1 2 _ g2
    have p3 := hc1 3 _ g3
    have p4 := hc1 4 _ g4
    have p5 := hc1 5 _ g5
    have p6 := hc1 6 _ g6
    have p7 := hc1 7 _ g7
    have p8 := hc1 8 _ g8
    have p9 := hc1 9 _ g9
    have p10 := hc1 10 _ g10
    have p11 := hc1 11 _ g11
    have p12 := hc1 12 _ g12
    simp only [Nat.add_zero] at p0
    clear hc1 hx hp hbf g0 g1 g2 g3 g4 g5 g6 g7 g8 g9 g10 g11 g12 HND hsm
    go_wp2_with fail
    refine HOW.out.mono ?_
    rintro e w3 ⟨sf', sp', rfl, hin, hfr1, hfr2, f3⟩
    have F3 := Lib.hid (F2.out.trans (f3.mono (B' := w.heap.size) (L' := []) F2.out.size (by simp)))
    have BR3 := Lib.hid (BR2.out.fr f3 BR2.out.lt (by simp))
    obtain ⟨⟨Af, cf, hf, rf⟩, ⟨Ap, cp, hp, rp⟩⟩ := hin
    simp only at hf hp rf rp
    subst hf
    subst hp
    have RF := Lib.hid rf
    have RP := Lib.hid rp
    clear rf rp f3 HOW p0 p1 p2 p3 p4 p5 p6 p7 p8 p9 p10 p11 p12
    have s0 := BR3.out.cell 0
    have s1 := BR3.out.cell 1
    have s2 := BR3.out.cell 2
    have s3 := BR3.out.cell 3
    have s4 := BR3.out.cell 4
    have s5 := BR3.out.cell 5
    have s6 := BR3.out.cell 6
    have s7 := BR3.out.cell 7
    have s8 := BR3.out.cell 8
    have s9 := BR3.out.cell 9
    have s10 := BR3.out.cell 10
    have s11 := BR3.out.cell 11
    have s12 := BR3.out.cell 12
    simp at s0 s1 s2 s3 s4 s5 s6 s7 s8 s9 s10 s11 s12
    have z0 := BR3.out.frozen 0
    have z1 := BR3.out.frozen 1
    have z2 := BR3.out.frozen 2
    have z3 := BR3.out.frozen 3
    have z4 := BR3.out.frozen 4
    have z5 := BR3.out.frozen 5
    have z6 := BR3.out.frozen 6
    have z7 := BR3.out.frozen 7
    have z8 := BR3.out.frozen 8
    have z9 := BR3.out.frozen 9
    have z10 := BR3.out.frozen 10
    have z11 := BR3.out.frozen 11
    have z12 := BR3.out.frozen 12
    go_wp2_with fail
    have BE := Lib.hid (blk_setNd BR3.out (.int .i64 x.id) (.int .i64 x.kind) (.slice Af x.fr.length cf) (.slice Ap x.pg.length cp) (.int .i64 x.par) (.int .i64 (x.rt 0)) (.int .i64 (x.rt 1)) (.int .i64 (x.rt 2)) (.int .i64 (x.rt 3)) (.int .i64 (x.rt 4)) (.int .i64 (x.rt 5)) (.int .i64 (x.rt 6)) (.int .i64 (x.rt 7)))
    have hgr : w.heap.size ≤ w.heap.size + 1 := by omega
    have FE := Lib.hid (fr_setNd F3.out (g := w.heap.size + 1) (.inl hgr) (.int .i64 x.id) (.int .i64 x.kind) (.slice Af x.fr.length cf) (.slice Ap x.pg.length cp) (.int .i64 x.par) (.int .i64 (x.rt 0)) (.int .i64 (x.rt 1)) (.int .i64 (x.rt 2)) (.int .i64 (x.rt 3)) (.int .i64 (x.rt 4)) (.int .i64 (x.rt 5)) (.int .i64 (x.rt 6)) (.int .i64 (x.rt 7)))
    have hfe := fr_setNd (Fr.refl w3.heap.size [w.heap.size + 1] w3) (g := w.heap.size + 1) (.inr (by simp)) (.int .i64 x.id) (.int .i64 x.kind) (.slice Af x.fr.length cf) (.slice Ap x.pg.length cp) (.int .i64 x.par) (.int .i64 (x.rt 0)) (.int .i64 (x.rt 1)) (.int .i64 (x.rt 2)) (.int .i64 (x.rt 3)) (.int .i64 (x.rt 4)) (.int .i64 (x.rt 5)) (.int .i64 (x.rt 6)) (.int .i64 (x.rt 7))
    have hlr : w.heap.size + 1 < w2.heap.size := BR2.out.lt
    have P1 := Lib.hid (RF.out.frL hfe (Nat.le_refl _) (fun h0 ad ha => by have := hfr1 _ _ _ rfl h0 ad ha; simp; omega))
    have P2 := Lib.hid (RP.out.frL hfe (Nat.le_refl _) (fun h0 ad ha => by have := hfr2 _ _ _ rfl h0 ad ha; simp; omega))
    have hsz := hfe.size
    exact bodyPost_ret (results_cell_row_tmp rfl _ _ (w.heap.size + 1) 38 (ndA x (.slice Af x.fr.length cf) (.slice Ap x.pg.length cp)) (0, 0) _ rfl BE.out Try.underlying38 rfl (by kernel_rfl)) rfl ⟨.inr ⟨x, _, _, HFN.out, rfl, ⟨⟨Af, cf, rfl, P1.out.more hsz⟩, ⟨Ap, cp, rfl, P2.out.more hsz⟩⟩⟩, FE.out⟩
end Go.Proofs.Ytddngibfhklnfaa
