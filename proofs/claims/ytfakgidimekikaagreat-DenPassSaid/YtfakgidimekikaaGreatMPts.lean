/- Texts merged into one, for the number of files a claim may have: PartsB, PartsC. -/
import Derived.Test.YtfakgidimekikaaGreatMA
import Derived.Test.YtfakgidimekikaaGreatMEnt
import Derived.Deep.RegionLaw
import Derived.Deep.AppendLies
import Derived.Deep.DeepCutAuto
namespace Go.Proofs.YtfakgidimekikaaGreat
open Go.RowKit Go.Fb
/-- Is an entry the node's, and its group the task's? -/
def inPart (id : Int) (r : Nat → Int) (t : Nat) (x : Nat → Int) : Bool := x 0 == id && r (x 1 % 8).toNat == (t : Int)
/-- The entries of a node's task. -/
def partC (id : Int) (r : Nat → Int) (t : Nat) (l : List (Nat → Int)) : List (Nat → Int) := l.filter (inPart id r t)
theorem partC_step {id : Int} {r : Nat → Int} {t : Nat} {l : List (Nat → Int)} {k : Nat} {x : Nat → Int} (h : l[k]? = some x) : partC id r t (l.take (k + 1)) = partC id r t (l.take k) ++ if inPart id r t x then [x] else [] := by
  unfold partC
  rw [List.take_add_one, h, List.filter_append]
  cases hi : inPart id r t x <;> simp [hi]
theorem partC_le (id : Int) (r : Nat → Int) (t : Nat) (l : List (Nat → Int)) : (partC id r t l).length ≤ l.length := List.length_filter_le _ _
/-- The cells of the rows. -/
def rowsA (par : Nat) (R : Nat → Value) : Array Value := ((List.range par).map R).toArray
theorem rowsA_get {par t : Nat} (R : Nat → Value) (h : t < par) : (rowsA par R)[t]? = some (R t) := by simp [rowsA, h]
theorem rowsA_set {par t : Nat} (R : Nat → Value) (u : Value) (_h : t < par) : (rowsA par R).setIfInBounds t u = rowsA par (fun j => if j = t then u else R j) := by
  apply Array.ext_getElem?
  intro i
  rw [Array.getElem?_setIfInBounds]
  by_cases hi : i < par
  · by_cases e : t = i
    · subst e; simp [rowsA, hi]
    · have e' : ¬ i = t := fun h => e h.symm
      simp [rowsA, hi, e, e']
  · have e : ¬ t = i := by omega
    simp [rowsA, hi, e]
theorem entTy : SliceTy Tryz.prog 33 97 6 48 := SliceTy.mk' (z := .agg #[.int .i64 0, .int .i64 0, .int .i64 0, .int .i64 0, .int .i64 0, .int .i64 0]) Tryz.underlying33 (by kernel_rfl) rfl (by omega)
/-- The rows of the tasks, while they grow. -/
structure PInv (w0 : World) (gr par : Nat) (F : Nat → List (Nat → Int)) (R : Nat → Value) (w : World) : Prop where
  blk : Blk w gr 33 (rowsA par R)
  low : w0.heap.size ≤ gr
  own : ∀ t, t < par → w.ownsRow w0.heap.size 97 6 (R t) (F t).length (cellsE (F t))
  off : ∀ t, t < par → (R t).ownBlock ≠ some gr
  dis : ∀ t u, t < par → u < par → t ≠ u → ∀ q, (R t).ownBlock = some q → (R u).ownBlock ≠ some q
  fr : Fr w0.heap.size [] w0 w
theorem PInv.congr {w0 w : World} {gr par : Nat} {F G : Nat → List (Nat → Int)} {R : Nat → Value} (h : PInv w0 gr par F R w) (e : ∀ t, t < par → F t = G t) : PInv w0 gr par G R w :=
  ⟨h.blk, h.low, fun t ht => by rw [← e t ht]; exact h.own t ht, h.off, h.dis, h.fr⟩
theorem PInv.keep {w0 w w' : World} {gr par : Nat} {F : Nat → List (Nat → Int)} {R : Nat → Value} (h : PInv w0 gr par F R w) (hf : Fr w.heap.size [] w w') : PInv w0 gr par F R w' :=
  ⟨h.blk.fr hf h.blk.lt (by simp), h.low, fun t ht => ownsRow_fr (h.own t ht) hf (fun q hq => ⟨((h.own t ht).lt q hq).2, by simp⟩), h.off, h.dis, h.fr.trans (hf.mono h.fr.size (by simp))⟩
theorem PInv.drewN {w0 w : World} {gr par : Nat} {F : Nat → List (Nat → Int)} {R : Nat → Value} (h : PInv w0 gr par F R w) (m : Nat) : PInv w0 gr par F R (w.drewN m) := h.keep ((Fr.refl _ _ _).drewN m)
/-- One row has grown by an entry, and its header is laid back. -/
theorem PInv.grow {w0 w w' : World} {gr par t : Nat} {F : Nat → List (Nat → Int)} {R : Nat → Value} {x : Nat → Int} {g c : Nat} (h : PInv w0 gr par F R w) (ht : t < par)
    (hown : w'.ownsRow w0.heap.size 97 6 (.slice (some ⟨g, 0, none⟩) ((F t).length + 1) c) ((F t).length + 1) (cellsE (F t) ++ entC x))
    (hg : w.grownBy w' (R t).ownBlock) (hat : (R t).ownBlock = some g ∨ w.heap.size ≤ g) (hlt : g < w'.heap.size) :
    PInv w0 gr par (fun j => F j ++ if j = t then [x] else []) (fun j => if j = t then .slice (some ⟨g, 0, none⟩) ((F t).length + 1) c else R j) (w'.setCell ⟨gr, t, none⟩ (.slice (some ⟨g, 0, none⟩) ((F t).length + 1) c)) := by
  have hgr : g ≠ gr := by
    rcases hat with hat | hat
    · rintro rfl; exact h.off t ht hat
    · have := h.blk.lt; omega
  have hgo : ∀ u, u < par → u ≠ t → (R u).ownBlock ≠ some g := fun u hu hut hq => by
    rcases hat with hat | hat
    · exact h.dis t u ht hu (fun e => hut e.symm) g hat hq
    · have := ((h.own u hu).lt g hq).2; omega
  have hb := (h.blk.grown hg (fun e => h.off t ht e.symm)).set_ t (.slice (some ⟨g, 0, none⟩) ((F t).length + 1) c)
  rw [rowsA_set _ _ ht] at hb
  have fs : Fr w.heap.size [gr] w' (w'.setCell ⟨gr, t, none⟩ (.slice (some ⟨g, 0, none⟩) ((F t).length + 1) c)) := (Fr.refl _ _ _).setCell (.inr (by simp)) _
  have fs' : Fr w'.heap.size [gr] w' (w'.setCell ⟨gr, t, none⟩ (.slice (some ⟨g, 0, none⟩) ((F t).length + 1) c)) := (Fr.refl _ _ _).setCell (.inr (by simp)) _
  refine ⟨hb, h.low, fun u hu => ?_, fun u hu => ?_, fun u v hu hv huv q hq => ?_, ?_⟩
  · by_cases e : u = t
    · subst e
      simp only [↓reduceIte]
      rw [show (F u ++ [x]).length = (F u).length + 1 by simp, show cellsE (F u ++ [x]) = cellsE (F u) ++ entC x by simp [cellsE]]
      refine ownsRow_fr hown fs' (fun q hq => ?_)
      have : q = g := by injection hq with hq; exact hq.symm
      subst this
      exact ⟨hlt, by simpa using hgr⟩
    · simp only [e, ↓reduceIte, List.append_nil]
      have ho : w'.ownsRow w0.heap.size 97 6 (R u) (F u).length (cellsE (F u)) := (h.own u hu).kept hg (by
        cases hq : (R u).ownBlock with
        | none => exact .inl rfl
        | some q => exact .inr fun e' => h.dis u t hu ht e q hq e'.symm)
      exact ownsRow_fr ho fs' (fun q hq => ⟨(ho.lt q hq).2, by simp; rintro rfl; exact h.off u hu hq⟩)
  · by_cases e : u = t
    · subst e
      simp only [↓reduceIte]
      intro hq
      injection hq with hq
      exact hgr hq
    · simp only [e, ↓reduceIte]
      exact h.off u hu
  · by_cases e : u = t
    · subst e
      have e' : ¬ v = u := fun h => huv h.symm
      simp only [↓reduceIte] at hq
      simp only [e', ↓reduceIte]
      injection hq with hq
      have hq' : g = q := hq
      subst hq'
      exact hgo v hv e'
    · simp only [e, ↓reduceIte] at hq
      by_cases e2 : v = t
      · subst e2
        simp only [↓reduceIte]
        intro hq2
        injection hq2 with hq2
        have hq' : g = q := hq2
        subst hq'
        exact hgo u hu e hq
      · simp only [e2, ↓reduceIte]
        exact h.dis u v hu hv huv q hq
  · refine (h.fr.grown hg h.fr.size (fun k hk => .inl ((h.own t ht).lt k hk).1)).trans ?_
    exact (Fr.refl _ _ _).setCell (.inl h.low) _
theorem entrows (n : Nat) (h : n ≤ 64) (W : World) : (Instr.makeSlice 122 (.int .i64 (n : Int)) (.int .i64 (n : Int))).run Tryz.prog W = .ok (.slice (some ⟨W.heap.size, 0, none⟩) n n) (W.alloc (.cells (rowsA n (fun _ => .slice none 0 0)) 33)) := by
  have info : (Tryz.prog.info? 33).map (fun i => (i.zero, i.size, i.bytes)) = some (some (Value.slice none 0 0), 1, 24) := by kernel_rfl
  obtain ⟨i, hi, hz, hsz, hby⟩ := info_parts info
  have hr := run_make (P := Tryz.prog) W 122 33 i (.slice none 0 0) Tryz.underlying122 hi hz .i64 .i64 n n (by omega) (by omega) (by rw [hby]; omega) (by omega)
  simp only [Int.toNat_natCast] at hr
  have hmc : madeCells (Value.slice none 0 0).cells (n * i.size) = rowsA n (fun _ => .slice none 0 0) := by
    rw [hsz, Nat.mul_one]
    apply Array.ext
    · simp [size_madeCells, rowsA]
    · intro j h1 h2
      simp [madeCells, Value.cells, Nat.mod_one, rowsA]
  rw [hmc] at hr
  exact hr
end Go.Proofs.YtfakgidimekikaaGreat
namespace Go.Proofs.YtfakgidimekikaaGreat
open Go.RowKit Go.Fb
abbrev nodeV (id par : Int) (u1 u2 u3 : Value) (r : Nat → Int) : Value := .agg #[.int .i64 id, u1, u2, u3, .int .i64 par, .int .i64 (r 0), .int .i64 (r 1), .int .i64 (r 2), .int .i64 (r 3), .int .i64 (r 4), .int .i64 (r 5), .int .i64 (r 6), .int .i64 (r 7)]
theorem right8_at {p : Int} {r : Nat → Int} {k : Nat} (h : right8 p r = true) (hk : k < 8) : 0 ≤ r k ∧ r k < p := by
  have h2 := ((Bool.and_eq_true _ _).mp h).2
  unfold inTo at h2
  exact of_decide_eq_true (List.all_eq_true.1 h2 k (List.mem_range.2 hk))
set_option maxRecDepth 100000 in
theorem parts_no (id par : Int) (u1 u2 u3 : Value) (r : Nat → Int) (v : Value) (w : World) (h : right8 par r = false) :
    Calls Tryz.prog 69 #[nodeV id par u1 u2 u3 r, v] w fun e w' => e = .returned (.slice none 0 0) ∧ Fr w.heap.size [] w w' := by
  have H := Lib.hid h
  clear h
  go_enter Tryz.func69, Tryz.ntmps69
  go_wp2_with fail
  refine (right_any par r _).mono ?_
  rintro e w1 ⟨rfl, f1⟩
  rw [H.out]
  go_wp2_with fail
  go_ret
  exact ⟨rfl, ((Fr.refl _ _ _).alloc (Nat.le_refl _) _).trans (f1.mono (by simp) (by simp))⟩
theorem fr_off {B : Nat} {w w' : World} (h : Fr B [] w w') : ∀ i g, g < B → w'.cell? ⟨g, i, none⟩ = w.cell? ⟨g, i, none⟩ := fun _ _ hg => h.cell hg (by simp)
set_option maxRecDepth 100000 in
set_option maxHeartbeats 1000000 in
theorem parts_yes (id : Int) (par : Nat) (u1 u2 u3 : Value) (r : Nat → Int) (l : List (Nat → Int)) (A : Option Addr) (c : Nat) (w : World) (hright : right8 par r = true) (hl : l.length ≤ 100) (hr : Reads w w.heap.size 6 A l.length (cellsE l)) :
    Calls Tryz.prog 69 #[nodeV id par u1 u2 u3 r, .slice A l.length c] w fun e w' => ∃ gr R, e = .returned (.slice (some ⟨gr, 0, none⟩) par par) ∧ PInv w gr par (fun t => partC id r t l) R w' := by
  have hp : 1 ≤ par ∧ par ≤ 3 := by
    have := (Bool.and_eq_true _ _).mp hright
    have := of_decide_eq_true this.1
    omega
  obtain ⟨hp1, hp3⟩ := hp
  have H := Lib.hid hright
  have HR := Lib.hid hr
  have HX := Lib.hid (fun (k : Nat) (hk : k < l.length) => (⟨l[k], List.getElem?_eq_getElem hk⟩ : ∃ x, l[k]? = some x))
  have HM := fun W => entrows par (by omega) W
  have HG := Lib.hid (fun k (hk : k < 8) => right8_at hright hk)
  clear hr hright
  obtain ⟨n, hn⟩ : ∃ n, n = l.length := ⟨_, rfl⟩
  have HN := Lib.hid hn
  rw [← hn] at hl ⊢
  clear hn
  go_enter Tryz.func69, Tryz.ntmps69
  go_wp2_with fail
  have B1 := Lib.hid (Blk.new w 50 #[.int .i64 id, u1, u2, u3, .int .i64 par, .int .i64 (r 0), .int .i64 (r 1), .int .i64 (r 2), .int .i64 (r 3), .int .i64 (r 4), .int .i64 (r 5), .int .i64 (r 6), .int .i64 (r 7)])
  have F1 := Lib.hid ((Fr.refl w.heap.size [] w).alloc (Nat.le_refl _) (.cells #[.int .i64 id, u1, u2, u3, .int .i64 par, .int .i64 (r 0), .int .i64 (r 1), .int .i64 (r 2), .int .i64 (r 3), .int .i64 (r 4), .int .i64 (r 5), .int .i64 (r 6), .int .i64 (r 7)] 50))
  generalize w.alloc _ = w1 at *
  refine (right_any par r _).mono ?_
  rintro e w2 ⟨rfl, f2⟩
  rw [H.out]
  have B2 := Lib.hid (B1.out.fr f2 B1.out.lt (by simp))
  have F2 := Lib.hid (F1.out.trans (f2.mono F1.out.size (by simp)))
  have hpar := B2.out.cell 4
  simp at hpar
  clear f2
  go_wp2_with fail
  have hrow := Blk.new w2 33 (rowsA par fun _ => .slice none 0 0)
  have f3 := (Fr.refl w2.heap.size [] w2).alloc (Nat.le_refl _) (.cells (rowsA par fun _ => .slice none 0 0) 33)
  generalize w2.alloc _ = w3 at *
  have INV0 : RowKit.Hid (PInv w2 w2.heap.size par (fun t => partC id r t (l.take 0)) (fun _ => .slice none 0 0) w3) :=
    ⟨hrow, Nat.le_refl _, fun t _ => (World.ownsRow_nil _ _ _ _ : w3.ownsRow _ _ _ _ 0 []), fun _ _ => by simp [Value.ownBlock], fun _ _ _ _ _ q hq => by simp [Value.ownBlock] at hq, f3⟩
  have hgr : w2.heap.size < w3.heap.size := hrow.lt
  have hnb : w.heap.size < w2.heap.size := B2.out.lt
  have hx3 := fun k x (hx : l[k]? = some x) => reads_ent (HR.out.fr F2.out (Nat.le_refl _) (by simp)) hx
  have HX3 := Lib.hid hx3
  clear hx3 hrow f3 hpar
  generalize hgre : w2.heap.size = gr at *
  go_loopw [7, 20] (fun s7 i wr => ∃ (k : Nat) (R : Nat → Value), k ≤ n ∧ i = .int .i64 k ∧ (s7 = undef ∨ ∃ a, s7 = .pointer a) ∧ RowKit.Hid (PInv w2 gr par (fun t => partC id r t (l.take k)) R wr)) (fun _ i _ => n - (intOf i).toNat)
  case atStart => exact ⟨0, _, by omega, rfl, .inl rfl, INV0⟩
  case round =>
    obtain ⟨k, R, hk, rfl, hs7, INV⟩ := hrel
    by_cases hkn : k < n
    · obtain ⟨x, hx⟩ := HX.out k (by rw [← HN.out]; exact hkn)
      obtain ⟨b1, o1, rfl, hb1, hc1⟩ := HX3.out k x hx
      have fw := INV.out.fr
      have hlt := fw.size
      have hq := fun j hj => (fw.cell (p := ⟨b1, o1 + (k * 6 + j), none⟩) (by show b1 < _; omega) (by simp)).trans (hc1 j hj)
      have p0 := hq 0 (by omega)
      have p1 := hq 1 (by omega)
      have p2 := hq 2 (by omega)
      have p3 := hq 3 (by omega)
      have p4 := hq 4 (by omega)
      have p5 := hq 5 (by omega)
      simp only [Nat.add_zero, ← Nat.add_assoc] at p0 p1 p2 p3 p4 p5
      have hki : (k : Int) < (n : Int) := by omega
      have hid0 := (B2.out.fr fw (by omega) (by simp)).cell 0
      have BN := Lib.hid (B2.out.fr fw (by omega) (by simp))
      simp at hid0
      clear hc1 hq fw
      go_upto_region 7 with fail
      obtain ⟨wa, hwa⟩ : ∃ wa, wa = wr.alloc (.cells #[.int .i64 (x 0), .int .i64 (x 1), .int .i64 (x 2), .int .i64 (x 3), .int .i64 (x 4), .int .i64 (x 5)] 97) := ⟨_, rfl⟩
      have hba : Blk wa wr.heap.size 97 #[.int .i64 (x 0), .int .i64 (x 1), .int .i64 (x 2), .int .i64 (x 3), .int .i64 (x 4), .int .i64 (x 5)] := by rw [hwa]; exact Blk.new _ _ _
      have hfa : Fr wr.heap.size [] wr wa := by rw [hwa]; exact (Fr.refl _ _ _).alloc (Nat.le_refl _) _
      rw [← hwa]
      have INVA : RowKit.Hid (PInv w2 gr par (fun t => partC id r t (l.take k)) R wa) := INV.out.keep hfa
      have BA := Lib.hid (BN.out.fr hfa BN.out.lt (by simp))
      have hgx : gr < wr.heap.size := INV.out.blk.lt
      have hra := fun t (ht : t < par) => (INV.out.own t ht)
      have HRA := Lib.hid hra
      clear hwa hfa p0 p1 p2 p3 p4 p5 hid0 hra
      obtain ⟨gx, hgxe⟩ : ∃ gx, gx = wr.heap.size := ⟨_, rfl⟩
      rw [← hgxe] at hba hgx ⊢
      have q0 := hba.cell 0
      have q1 := hba.cell 1
      have hid1 := BA.out.cell 0
      have w4 := BA.out.cell 5
      have w5 := BA.out.cell 6
      have w6 := BA.out.cell 7
      have w7 := BA.out.cell 8
      have w8 := BA.out.cell 9
      have w9 := BA.out.cell 10
      have w10 := BA.out.cell 11
      have w11 := BA.out.cell 12
      simp at hid1 q0 q1 w4 w5 w6 w7 w8 w9 w10 w11
      have HBA := Lib.hid hba
      have HGX := Lib.hid hgxe
      clear hba hgxe
      have HS := Lib.hid (fun t => partC_step (id := id) (r := r) (t := t) hx)
      by_cases h0 : x 0 = id
      · subst h0
        go_wp2_with fail
        refine (task_any r (x 1) _).mono ?_
        rintro e w5 ⟨rfl, f5⟩
        obtain ⟨d, hd⟩ : ∃ d, d = (x 1 % 8).toNat := ⟨_, rfl⟩
        rw [← hd]
        have hd8 : d < 8 := by omega
        obtain ⟨h0r, h1r⟩ := HG.out d hd8
        obtain ⟨t, ht⟩ := Int.eq_ofNat_of_zero_le h0r
        have htp : t < par := by omega
        rw [ht]
        have HT := Lib.hid ht
        have HD := Lib.hid hd
        have BX := Lib.hid (HBA.out.fr f5 HBA.out.lt (by simp))
        have INVW : RowKit.Hid (PInv w2 gr par (fun t => partC (x 0) r t (l.take k)) R w5) := INVA.out.keep f5
        have hgx5 : gx < w5.heap.size := BX.out.lt
        have hgr5 : gr < w5.heap.size := INVW.out.blk.lt
        clear hd ht f5 q0 q1 hid1 h0r h1r hd8
        have ho := INVW.out.own t htp
        obtain ⟨A1, c1, hRt, _, _, _⟩ := ownsRow_shape ho
        have hcr := INVW.out.blk.cell t
        rw [rowsA_get R htp, hRt] at hcr
        have hfz := INVW.out.blk.frozen t
        have hoff := INVW.out.off t htp
        have hoffx : (R t).ownBlock ≠ some gx := fun hq => by
          have := (HRA.out t htp).lt gx hq
          have := HGX.out
          omega
        rw [hRt] at ho hoff hoffx
        have hmn : (partC (x 0) r t (l.take k)).length ≤ k := Nat.le_trans (partC_le _ _ _ _) (by simp; omega)
        obtain ⟨m, hm⟩ : ∃ m, m = (partC (x 0) r t (l.take k)).length := ⟨_, rfl⟩
        rw [← hm] at ho hmn hcr hRt hoff hoffx
        have HRT := Lib.hid hRt
        have HCV := Lib.hid ((rowsA_get R htp).trans (congrArg some hRt))
        have HMM := Lib.hid hm
        clear hRt hm
        have c0 := BX.out.cell 0
        have c1' := BX.out.cell 1
        have c2 := BX.out.cell 2
        have c3 := BX.out.cell 3
        have c4 := BX.out.cell 4
        have c5 := BX.out.cell 5
        simp at c0 c1' c2 c3 c4 c5
        have hti : (t : Int) < (par : Int) := by omega
        have ht0 : (0 : Int) ≤ (t : Int) := by omega
        obtain ⟨i0, hi0, hz0, hz1, hz2⟩ := info_parts (show (Tryz.prog.info? 97).map (fun i => (i.zero, i.size, i.bytes)) = some (some (.agg #[.int .i64 0, .int .i64 0, .int .i64 0, .int .i64 0, .int .i64 0, .int .i64 0]), 6, 48) by kernel_rfl)
        go_wp2_with fail
        go_region_law
          ((refine step_append_lies _ (by rfl) _ _ _ (by rfl) w2.heap.size 97 i0 _ 6 48 Tryz.underlying33 hi0 hz0 hz1 hz2 rfl (by omega) (.slice A1 m c1) m _ (by rfl) ((ho.alloc _).drew)
              ⟨w5.heap.size, 0, none⟩ 1 1 (entC x) (by rfl) (by rfl) (World.news_of_block (cs := (entC x).toArray) (t := 97) (fr := (0, 0)) (heap_alloc_new w5 _)) (by simp [entC, Value.oneCell'])
              (by omega) (by unfold maxLen; omega) (by omega) (by simp; omega) (w5.heap.size + 1) (by simp) ?_; intro gg cap w6 hown1 hgrow hat hlt6; have hfz6 : w6.frozen? ⟨gr, t, none⟩ = false := (hgrow.frozen_far ⟨gr, t, none⟩ (by simp; omega) (Ne.symm hoff)).trans ((INVW.out.blk.alloc _).frozen t); have hcr6 : w6.cell? ⟨gr, t, none⟩ = some (.slice A1 m c1) := (hgrow.cell_far ⟨gr, t, none⟩ (by simp; omega) (Ne.symm hoff)).trans (((INVW.out.blk.alloc _).cell t).trans HCV.out)))
        all_goals
          go_wp2_with fail
          go_roundw
          case rel =>
            have hmm := HMM.out
            subst hmm
            have hG := (INVW.out.keep (Fr.drew (Fr.refl _ _ _))).grow (x := x) (g := gg) (c := cap) (w' := w6) htp hown1 (by rw [HRT.out]; exact (World.grownBy_alloc w5.drew _ _).trans hgrow) (by
              rw [HRT.out]
              rcases hat with hat | hat
              · exact .inl hat
              · exact .inr (by show w5.heap.size ≤ gg; omega)) hlt6
            refine ⟨k + 1, _, by omega, by go_num, .inr ⟨_, rfl⟩, hG.congr fun u _ => ?_⟩
            rw [HS.out u]
            have hi : inPart (x 0) r u x = decide (u = t) := by
              rw [Bool.eq_iff_iff]
              simp [inPart, ← HD.out, HT.out]
              omega
            rw [hi]
            by_cases e : u = t <;> simp [e]
          case measure => simp [intOf]; omega
      · go_wp2_with fail
        go_roundw
        case rel =>
          refine ⟨k + 1, R, by omega, by go_num, .inr ⟨_, rfl⟩, ?_⟩
          refine INVA.out.congr fun t _ => ?_
          rw [HS.out t]
          simp [inPart, h0]
        case measure => simp [intOf]; omega
    · obtain rfl : k = n := by omega
      have INV' := INV
      clear INV
      go_wp2_with fail
      go_ret
      have hlk : l.take k = l := by rw [HN.out]; exact List.take_length
      refine ⟨gr, R, rfl, ?_⟩
      have h := INV'.out
      rw [hlk] at h
      exact ⟨h.blk, by omega, fun t ht => ownsRow_base (h.own t ht) (by omega), h.off, h.dis, F2.out.trans (h.fr.mono F2.out.size (by simp))⟩
end Go.Proofs.YtfakgidimekikaaGreat
