/- Texts merged into one, for the number of files a claim may have: Walk, Next. -/
import Derived.Test.YtfakgidimekikaaGreatMRep
import Derived.Test.YtfakgidimekikaaGreatMEff
import Derived.Test.YtfakgidimekikaaGreatMA
import Derived.StillTailTactics
import Derived.BigRegion
namespace Go.Proofs.YtfakgidimekikaaGreat
open Go.RowKit Go.Fb
/-- The cells of what is known while a program is gone through. -/
abbrev wkC (gd ge gm n : Nat) (A : Option Addr) (c : Nat) (s : CS) : Array Value :=
  #[.slice (some ⟨gd, 0, none⟩) n n, .int .i64 s.mx, .int .i64 s.em, .bool s.u0, .bool s.u1, .slice A n c, .slice (some ⟨ge, 0, none⟩) n n, .map (some gm)]
structure WMem (gw gd ge gm n : Nat) (A : Option Addr) (c : Nat) (s : CS) (w : World) : Prop where
  blk : Blk w gw 246 (wkC gd ge gm n A c s)
  dep : Blk w gd 3 (intsA n s.D)
  ems : Blk w ge 3 (intsA n s.E)
  map : EffMap w gm
  ne1 : gd ≠ gw
  ne2 : ge ≠ gw
  ne3 : gd ≠ ge
theorem EffMap.lt {w : World} {r : Nat} (h : EffMap w r) : r < w.heap.size := by
  rcases Nat.lt_or_ge r w.heap.size with hlt | hge
  · exact hlt
  · unfold EffMap at h; rw [Array.getElem?_eq_none hge] at h; cases h
theorem EffMap.far {w : World} {r : Nat} (h : EffMap w r) {p : Addr} (hp : r ≠ p.block) (u : Value) : EffMap (w.setCell p u) r := (Below.heap_setCell w p u r hp).trans h
theorem EffMap.ne {w : World} {r g t : Nat} {cs : Array Value} (h : EffMap w r) (hb : Blk w g t cs) : r ≠ g := by
  rintro rfl
  unfold EffMap at h
  unfold Blk at hb
  rw [h] at hb
  cases hb
theorem EffMap.fr {w w' : World} {r B : Nat} {L : List Nat} (h : EffMap w r) (hf : Fr B L w w') (h1 : r < B) (h2 : r ∉ L) : EffMap w' r := (hf.block r h1 h2).trans h
theorem WMem.drewN {gw gd ge gm n : Nat} {A : Option Addr} {c : Nat} {s : CS} {w : World} (h : WMem gw gd ge gm n A c s w) (m : Nat) : WMem gw gd ge gm n A c s (w.drewN m) := ⟨h.blk, h.dep, h.ems, h.map, h.ne1, h.ne2, h.ne3⟩
theorem WMem.drew {gw gd ge gm n : Nat} {A : Option Addr} {c : Nat} {s : CS} {w : World} (h : WMem gw gd ge gm n A c s w) : WMem gw gd ge gm n A c s w.drew := ⟨h.blk, h.dep, h.ems, h.map, h.ne1, h.ne2, h.ne3⟩
theorem WMem.keep {gw gd ge gm n : Nat} {A : Option Addr} {c : Nat} {s : CS} {w w' : World} (h : WMem gw gd ge gm n A c s w) (hf : Fr w.heap.size [] w w') : WMem gw gd ge gm n A c s w' :=
  ⟨h.blk.fr hf h.blk.lt (by simp), h.dep.fr hf h.dep.lt (by simp), h.ems.fr hf h.ems.lt (by simp), h.map.fr hf h.map.lt (by simp), h.ne1, h.ne2, h.ne3⟩
/-- The greatest depth and the most emits laid anew. -/
theorem WMem.top {gw gd ge gm n : Nat} {A : Option Addr} {c : Nat} {s : CS} {w : World} (h : WMem gw gd ge gm n A c s w) (a b : Int) :
    WMem gw gd ge gm n A c { s with mx := a, em := b } ((w.setCell ⟨gw, 1, none⟩ (.int .i64 a)).setCell ⟨gw, 2, none⟩ (.int .i64 b)) :=
  ⟨(h.blk.set_ 1 _).set_ 2 _, (h.dep.far (p := ⟨gw, 1, none⟩) h.ne1 _).far (p := ⟨gw, 2, none⟩) h.ne1 _, (h.ems.far (p := ⟨gw, 1, none⟩) h.ne2 _).far (p := ⟨gw, 2, none⟩) h.ne2 _,
    (h.map.far (p := ⟨gw, 1, none⟩) (h.map.ne h.blk) _).far (p := ⟨gw, 2, none⟩) (h.map.ne h.blk) _, h.ne1, h.ne2, h.ne3⟩
theorem WMem.setD {gw gd ge gm n : Nat} {A : Option Addr} {c : Nat} {s : CS} {w : World} (h : WMem gw gd ge gm n A c s w) (t : Nat) (d : Int) :
    WMem gw gd ge gm n A c { s with D := updC s.D t d } (w.setCell ⟨gd, t, none⟩ (.int .i64 d)) := by
  have hb := h.dep.set_ t (.int .i64 d)
  rw [intsA_set] at hb
  exact ⟨h.blk.far (p := ⟨gd, t, none⟩) h.ne1.symm _, hb, h.ems.far (p := ⟨gd, t, none⟩) h.ne3.symm _, h.map.far (p := ⟨gd, t, none⟩) (h.map.ne h.dep) _, h.ne1, h.ne2, h.ne3⟩
theorem WMem.setE {gw gd ge gm n : Nat} {A : Option Addr} {c : Nat} {s : CS} {w : World} (h : WMem gw gd ge gm n A c s w) (t : Nat) (d : Int) :
    WMem gw gd ge gm n A c { s with E := updC s.E t d } (w.setCell ⟨ge, t, none⟩ (.int .i64 d)) := by
  have hb := h.ems.set_ t (.int .i64 d)
  rw [intsA_set] at hb
  exact ⟨h.blk.far (p := ⟨ge, t, none⟩) h.ne2.symm _, h.dep.far (p := ⟨ge, t, none⟩) h.ne3 _, hb, h.map.far (p := ⟨ge, t, none⟩) (h.map.ne h.ems) _, h.ne1, h.ne2, h.ne3⟩
/-- What come leaves. -/
def ComeOut (gw gd ge gm n : Nat) (A : Option Addr) (c : Nat) (r : Option CS) (w : World) (e : Ending) (w' : World) : Prop :=
  e = .returned (.bool r.isSome) ∧ (∀ s', r = some s' → WMem gw gd ge gm n A c s' w') ∧ Fr w.heap.size [gw, gd, ge] w w'
theorem max_if (a b : Int) : max a b = if a < b then b else a := by split <;> omega
set_option maxRecDepth 100000 in
set_option maxHeartbeats 2000000 in
theorem come_any (gw gd ge gm n : Nat) (A : Option Addr) (c : Nat) (s : CS) (t : Nat) (d e : Int) (w : World) (hn : n ≤ 24) (ht : t ≤ n) (hm : WMem gw gd ge gm n A c s w) :
    Calls Tryz.prog 181 #[.pointer (some ⟨gw, 0, none⟩), .int .i64 t, .int .i64 d, .int .i64 e] w (ComeOut gw gd ge gm n A c (comeF n s t d e) w) := by
  obtain ⟨r, hr⟩ : ∃ r, r = comeF n s t d e := ⟨_, rfl⟩
  rw [← hr]
  unfold comeF at hr
  have HR := Lib.hid hr
  have M := Lib.hid hm
  have c1 := hm.blk.cell 1
  have c2 := hm.blk.cell 2
  have z1 := hm.blk.frozen 1
  have z2 := hm.blk.frozen 2
  simp at c1 c2
  have hgw := hm.blk.lt
  clear hr hm
  go_enter Tryz.func181, Tryz.ntmps181
  go_wp2_with fail
  go_region
  have M1 : RowKit.Hid (WMem gw gd ge gm n A c { s with mx := max s.mx d, em := max s.em e } ((w.setCell ⟨gw, 1, none⟩ (.int .i64 (if s.mx < d then d else s.mx))).setCell ⟨gw, 2, none⟩ (.int .i64 (if s.em < e then e else s.em))).drew) := by
    rw [max_if, max_if]
    exact (M.out.top _ _).drew
  have F1 : RowKit.Hid (Fr w.heap.size [gw, gd, ge] w ((w.setCell ⟨gw, 1, none⟩ (.int .i64 (if s.mx < d then d else s.mx))).setCell ⟨gw, 2, none⟩ (.int .i64 (if s.em < e then e else s.em))).drew) :=
    (((Fr.refl _ _ _).setCell (p := ⟨gw, 1, none⟩) (.inr (by simp)) _).setCell (p := ⟨gw, 2, none⟩) (.inr (by simp)) _).drew
  generalize (if s.mx < d then d else s.mx) = a1 at *
  generalize (if s.em < e then e else s.em) = a2 at *
  generalize ((w.setCell ⟨gw, 1, none⟩ (.int .i64 a1)).setCell ⟨gw, 2, none⟩ (.int .i64 a2)).drew = w1 at *
  clear c1 c2 z1 z2 hgw M
  by_cases h1 : 8 < d
  · obtain rfl : r = none := by rw [HR.out, if_pos (.inl h1)]
    go_wp2_with fail
    go_ret
    exact ⟨rfl, (fun _ h => by cases h), F1.out⟩
  by_cases h2 : 4 < e
  · obtain rfl : r = none := by rw [HR.out, if_pos (.inr h2)]
    go_wp2_with fail
    go_ret
    exact ⟨rfl, (fun _ h => by cases h), F1.out⟩
  have c5 := M1.out.blk.cell 5
  simp at c5
  by_cases h3 : t = n
  · have hr : r = some { s with mx := max s.mx d, em := max s.em e } := by rw [HR.out, if_neg (by omega), if_pos h3]
    subst h3
    have HRR := Lib.hid hr
    clear hr
    go_wp2_with fail
    go_ret
    exact ⟨by rw [HRR.out]; simp, fun s' h => by rw [HRR.out] at h; injection h with h; subst h; exact M1.out, F1.out⟩
  have htn : (t : Int) < (n : Int) := by omega
  have hne : ((t : Int) == (n : Int)) = false := by simp; omega
  have c0 := M1.out.blk.cell 0
  simp at c0
  have cd := (M1.out.dep.cell t).trans (intsA_get _ (by omega))
  have zd := M1.out.dep.frozen t
  by_cases h4 : s.D t ≠ -1 ∧ s.D t ≠ d
  · obtain rfl : r = none := by rw [HR.out, if_neg (by omega), if_neg h3, if_pos h4]
    obtain ⟨h5, h6⟩ := h4
    have b1 : (s.D t != -1) = true := by simpa using h5
    have b2 : (s.D t != d) = true := by simpa using h6
    clear h5 h6
    go_wp2_with fail
    go_ret
    exact ⟨rfl, (fun _ h => by cases h), F1.out⟩
  have hr : r = some { s with D := updC s.D t d, E := updC s.E t (max (s.E t) e), mx := max s.mx d, em := max s.em e } := by rw [HR.out, if_neg (by omega), if_neg h3, if_neg h4]
  have HRR := Lib.hid hr
  have h4' : (s.D t != -1) = false ∨ ((s.D t != -1) = true ∧ (s.D t != d) = false) := by
    by_cases h5 : s.D t = -1
    · exact .inl (by simp [h5])
    · by_cases h6 : s.D t = d
      · exact .inr ⟨by simpa using h5, by simp [h6]⟩
      · exact absurd ⟨h5, h6⟩ h4
  clear hr h4
  have M2 := Lib.hid (M1.out.setD t d)
  have F2 := Lib.hid (F1.out.setCell (p := ⟨gd, t, none⟩) (.inr (by simp)) (.int .i64 d))
  rcases h4' with b1 | ⟨b1, b2⟩
  all_goals
    go_upto_region 9 with fail
    generalize w1.setCell ⟨gd, t, none⟩ (.int .i64 d) = w2 at *
    clear c0 c5 cd zd M1 F1
    have c6 := M2.out.blk.cell 6
    have ce := (M2.out.ems.cell t).trans (intsA_get _ (by omega))
    have ze := M2.out.ems.frozen t
    simp at c6
    simp only at ce
    refine wp_region_still_tail 15 (by kernel_rfl) (by kernel_rfl) ?_
    simp only [List.take_succ_cons, List.take_zero, List.drop_succ_cons, List.drop_zero]
    repeat still_step
    refine wpStill_nil ?_
    change wpList _ _ _ _ _ w2.drew
    go_wp2_with fail
    all_goals
      go_ret
      refine ⟨by rw [HRR.out]; rfl, fun s' h => ?_, (F2.out.setCell (p := ⟨ge, t, none⟩) (.inr (by simp)) _).drew⟩
      rw [HRR.out] at h
      injection h with h
      subst h
      first
        | (rw [show max (s.E t) e = e by omega]; exact (M2.out.setE t e).drew)
        | (rw [show max (s.E t) e = s.E t by omega]; exact (M2.out.setE t (s.E t)).drew)
end Go.Proofs.YtfakgidimekikaaGreat
namespace Go.Proofs.YtfakgidimekikaaGreat
open Go.RowKit Go.Fb
theorem right_range {i : Int × Int} (h : rightB i = true) : 0 ≤ i.1 ∧ i.1 ≤ 17 ∧ -524288 ≤ i.2 ∧ i.2 ≤ 524287 ∧ ((i.1 = 15 ∨ i.1 = 16) → 1 ≤ i.2 ∧ i.2 ≤ 24) ∧ ((i.1 = 4 ∨ i.1 = 5) → 0 ≤ i.2 ∧ i.2 ≤ 1) := by
  obtain ⟨o, a⟩ := i
  unfold rightB boF boT at h
  have h := of_decide_eq_true h
  simp only at h ⊢
  by_cases h1 : o = 1 ∨ o = 2
  · rw [if_pos h1, if_pos h1] at h; omega
  · rw [if_neg h1, if_neg h1] at h
    by_cases h2 : o = 4 ∨ o = 5
    · rw [if_pos h2, if_pos h2] at h; omega
    · rw [if_neg h2, if_neg h2] at h
      by_cases h3 : o = 15 ∨ o = 16
      · rw [if_pos h3, if_pos h3] at h; omega
      · rw [if_neg h3, if_neg h3] at h; omega
/-- What next leaves. -/
def NextOut (L : List Nat) (w : World) (e : Ending) (w' : World) : Prop :=
  ∃ A c, e = .returned (.slice A L.length c) ∧ Reads w' w'.heap.size 1 A L.length (L.map fun t : Nat => Value.int .i64 t) ∧ (∀ ad, A = some ad → w.heap.size ≤ ad.block) ∧ Fr w.heap.size [] w w'
theorem reads_new1 (w : World) (a : Nat) : Reads (w.alloc (.cells #[.int .i64 a] 3)) (w.alloc (.cells #[.int .i64 a] 3)).heap.size 1 (some ⟨w.heap.size, 0, none⟩) 1 ([a].map fun t : Nat => Value.int .i64 t) :=
  (Reads.of_blk (size := 1) (m := 1) (Blk.new w 3 #[.int .i64 a]) rfl).more (by simp)
theorem reads_new2 (w : World) (a b : Nat) : Reads (w.alloc (.cells #[.int .i64 a, .int .i64 b] 3)) (w.alloc (.cells #[.int .i64 a, .int .i64 b] 3)).heap.size 1 (some ⟨w.heap.size, 0, none⟩) 2 ([a, b].map fun t : Nat => Value.int .i64 t) :=
  (Reads.of_blk (size := 1) (m := 2) (Blk.new w 3 #[.int .i64 a, .int .i64 b]) rfl).more (by simp)
set_option maxRecDepth 100000 in
set_option maxHeartbeats 2000000 in
theorem next_any (A : Option Addr) (c B : Nat) (l : List (Int × Int)) (k : Nat) (i : Int × Int) (w : World) (hr : Reads w B 2 A l.length (cellsI l)) (hB : B ≤ w.heap.size) (hn : l.length ≤ 24) (hx : l[k]? = some i) (hi : rightB i = true) :
    Calls Tryz.prog 197 #[.slice A l.length c, .int .i64 k] w (NextOut (nextsF l.length k i) w) := by
  have hkl : k < l.length := by
    rcases Nat.lt_or_ge k l.length with h' | h'
    · exact h'
    · rw [List.getElem?_eq_none h'] at hx; cases hx
  obtain ⟨b, off, rfl, hb, c1, c2⟩ := reads_ins hr hx
  obtain ⟨r1, r2, r3, r4, r5, r6⟩ := right_range hi
  obtain ⟨o, a⟩ := i
  obtain ⟨n, hnl⟩ : ∃ n, n = l.length := ⟨_, rfl⟩
  rw [← hnl] at hn hkl ⊢
  have hbw : b < w.heap.size := by omega
  simp only at c1 c2 r1 r2 r3 r4 r5 r6
  clear hr hx hi hnl hb hB
  obtain ⟨L, hL⟩ : ∃ L, L = nextsF n k (o, a) := ⟨_, rfl⟩
  rw [← hL]
  unfold nextsF at hL
  simp only at hL
  have hki : (k : Int) < (n : Int) := by omega
  by_cases h0 : o = 0
  · rw [if_pos h0] at hL
    subst hL h0
    clear r5 r6
    by_cases hf : (k : Int) + 1 + a ≤ n
    all_goals
      go_enter Tryz.func197, Tryz.ntmps197
      go_wp2_with fail
      go_ret
      exact ⟨none, 0, rfl, Reads.none_, (fun _ h => by cases h), (Fr.refl _ _ _).alloc (Nat.le_refl _) _⟩
  by_cases h16 : o = 16
  · rw [if_neg h0, if_pos h16] at hL
    obtain ⟨q1, q2⟩ := r5 (.inr h16)
    obtain ⟨m, hm⟩ := Int.eq_ofNat_of_zero_le (show 0 ≤ a by omega)
    have hm' : a = (m : Int) := hm
    subst hm' h16
    unfold farF at hL
    rw [Int.toNat_natCast] at hL
    clear r5 r6 h0 hm
    by_cases hf : k + 1 + m ≤ n
    · rw [Nat.min_eq_left hf] at hL
      subst hL
      have hf' : (k : Int) + 1 + m ≤ n := by omega
      go_enter Tryz.func197, Tryz.ntmps197
      go_wp2_with fail
      go_ret
      refine ⟨_, 1, rfl, ?_, (fun ad h => by injection h with h; subst h; simp), ((Fr.refl _ _ _).alloc (Nat.le_refl _) _).alloc (by simp) _⟩
      have h := reads_new1 (w.alloc (.cells #[.int .i64 16, .int .i64 m] 166)) (k + 1 + m)
      simpa using h
    · rw [Nat.min_eq_right (by omega)] at hL
      subst hL
      have hf' : (n : Int) < (k : Int) + 1 + m := by omega
      go_enter Tryz.func197, Tryz.ntmps197
      go_wp2_with fail
      go_ret
      refine ⟨_, 1, rfl, ?_, (fun ad h => by injection h with h; subst h; simp), ((Fr.refl _ _ _).alloc (Nat.le_refl _) _).alloc (by simp) _⟩
      have h := reads_new1 (w.alloc (.cells #[.int .i64 16, .int .i64 m] 166)) n
      simpa using h
  by_cases h15 : o = 15
  · rw [if_neg h0, if_neg h16, if_pos h15] at hL
    obtain ⟨q1, q2⟩ := r5 (.inl h15)
    obtain ⟨m, hm⟩ := Int.eq_ofNat_of_zero_le (show 0 ≤ a by omega)
    have hm' : a = (m : Int) := hm
    subst hm' h15
    unfold farF at hL
    rw [Int.toNat_natCast] at hL
    clear r5 r6 h0 h16 hm
    by_cases hf : k + 1 + m ≤ n
    · rw [Nat.min_eq_left hf] at hL
      subst hL
      have hf' : (k : Int) + 1 + m ≤ n := by omega
      go_enter Tryz.func197, Tryz.ntmps197
      go_wp2_with fail
      go_ret
      refine ⟨_, 2, rfl, ?_, (fun ad h => by injection h with h; subst h; simp), ((Fr.refl _ _ _).alloc (Nat.le_refl _) _).alloc (by simp) _⟩
      have h := reads_new2 (w.alloc (.cells #[.int .i64 15, .int .i64 m] 166)) (k + 1) (k + 1 + m)
      simpa using h
    · rw [Nat.min_eq_right (by omega)] at hL
      subst hL
      have hf' : (n : Int) < (k : Int) + 1 + m := by omega
      go_enter Tryz.func197, Tryz.ntmps197
      go_wp2_with fail
      go_ret
      refine ⟨_, 2, rfl, ?_, (fun ad h => by injection h with h; subst h; simp), ((Fr.refl _ _ _).alloc (Nat.le_refl _) _).alloc (by simp) _⟩
      have h := reads_new2 (w.alloc (.cells #[.int .i64 15, .int .i64 m] 166)) (k + 1) n
      simpa using h
  · rw [if_neg h0, if_neg h16, if_neg h15] at hL
    subst hL
    have e0 : (o == 0) = false := by simpa using h0
    have e16 : (o == 16) = false := by simpa using h16
    have e15 : (o == 15) = false := by simpa using h15
    clear r5 r6 h0 h16 h15
    by_cases hf : (k : Int) + 1 + a ≤ n
    all_goals
      go_enter Tryz.func197, Tryz.ntmps197
      go_wp2_with fail
      go_ret
      refine ⟨_, 1, rfl, ?_, (fun ad h => by injection h with h; subst h; simp), ((Fr.refl _ _ _).alloc (Nat.le_refl _) _).alloc (by simp) _⟩
      have h := reads_new1 (w.alloc (.cells #[.int .i64 o, .int .i64 a] 166)) (k + 1)
      simpa using h
end Go.Proofs.YtfakgidimekikaaGreat
