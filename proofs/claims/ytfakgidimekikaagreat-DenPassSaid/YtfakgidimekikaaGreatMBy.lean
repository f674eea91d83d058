/- Texts merged into one, for the number of files a claim may have: By, Bz. -/
import Derived.Test.YtfakgidimekikaaGreatMPlMp
import Derived.Test.YtfakgidimekikaaGreatMLnB
import Derived.Deep.LoopGhost
namespace Go.Proofs.YtfakgidimekikaaGreat
open Go.RowKit Go.Fb
/-- The values of one place. -/
def keyL (x : Nat → Int) : Pl := (x 0, x 1, x 2)
def onlyV (l : List (Nat → Int)) (p : Pl) : List (Int × Int) := (l.filter (fun x => decide (keyL x = p))).map (fun x => (x 3, x 4))
def valC (x : Int × Int) : List Value := [.int .i64 x.1, .int .i64 x.2]
def cellsV (l : List (Int × Int)) : List Value := l.flatMap valC
theorem cellsV_app (a b : List (Int × Int)) : cellsV (a ++ b) = cellsV a ++ cellsV b := by simp [cellsV]
theorem cellsV_length (l : List (Int × Int)) : (cellsV l).length = l.length * 2 := by
  unfold cellsV
  induction l with
  | nil => rfl
  | cons x l ih => rw [List.flatMap_cons, List.length_append, ih]; simp [valC]; omega
theorem cellsV_get : ∀ {l : List (Int × Int)} {k : Nat} {x : Int × Int}, l[k]? = some x → (cellsV l)[k * 2]? = some (.int .i64 x.1) ∧ (cellsV l)[k * 2 + 1]? = some (.int .i64 x.2)
  | [], k, x, h => by simp at h
  | y :: l, 0, x, h => by simp at h; subst h; exact ⟨rfl, rfl⟩
  | y :: l, k + 1, x, h => by
    obtain ⟨a, b⟩ := cellsV_get (l := l) (k := k) (x := x) (by simpa using h)
    have e : ∀ j, (cellsV (y :: l))[2 + j]? = (cellsV l)[j]? := fun j => by
      rw [cellsV, List.flatMap_cons, List.getElem?_append_right (by simp [valC])]
      congr 1
      simp [valC]
    rw [show (k + 1) * 2 = 2 + k * 2 by omega, e, Nat.add_assoc, e]
    exact ⟨a, b⟩
theorem reads_val {w : World} {B : Nat} {A : Option Addr} {l : List (Int × Int)} (h : Reads w B 2 A l.length (cellsV l)) {k : Nat} {x : Int × Int} (hx : l[k]? = some x) :
    ∃ b off, A = some ⟨b, off, none⟩ ∧ b < B ∧ w.cell? ⟨b, off + k * 2, none⟩ = some (.int .i64 x.1) ∧ w.cell? ⟨b, off + k * 2 + 1, none⟩ = some (.int .i64 x.2) := by
  have hk : k < l.length := by
    rcases Nat.lt_or_ge k l.length with h | h
    · exact h
    · rw [List.getElem?_eq_none h] at hx; cases hx
  obtain ⟨b, off, e, hb, hc⟩ := h.2 (by omega)
  obtain ⟨c1, c2⟩ := cellsV_get hx
  exact ⟨b, off, e, hb, hc _ _ c1, by rw [Nat.add_assoc]; exact hc _ _ c2⟩
theorem valC_one {l : List (Int × Int)} : ∀ u ∈ cellsV l, u.oneCell' = true := by
  intro u hu
  obtain ⟨x, _, hx⟩ := List.mem_flatMap.1 hu
  simp only [valC, List.mem_cons, List.not_mem_nil, or_false] at hx
  rcases hx with rfl | rfl <;> rfl
theorem valTy : SliceTy Tryz.prog 30 24 2 16 := SliceTy.mk' (z := .agg #[.int .i64 0, .int .i64 0]) Tryz.underlying30 (by kernel_rfl) rfl (by omega)
theorem onlyV_snoc (l : List (Nat → Int)) (x : Nat → Int) (p : Pl) : onlyV (l ++ [x]) p = if p = keyL x then onlyV l p ++ [(x 3, x 4)] else onlyV l p := by
  unfold onlyV
  rw [List.filter_append, List.map_append]
  by_cases c : keyL x = p
  · rw [if_pos c.symm]
    simp [c]
  · rw [if_neg (fun h => c h.symm)]
    simp [c]
theorem onlyV_le (l : List (Nat → Int)) (p : Pl) : (onlyV l p).length ≤ l.length := by
  unfold onlyV
  rw [List.length_map]
  exact List.length_filter_le _ _
theorem findP_no {p : Pl} : ∀ {ps : List (Pl × Value)} {i : Nat}, findP p ps i = none → p ∉ ps.map (·.1)
  | [], _, _ => by simp
  | x :: l, i, h => by
    unfold findP at h
    split at h
    · cases h
    · rename_i hp
      rw [List.map_cons, List.mem_cons]
      rintro (e | e)
      · exact hp e
      · exact findP_no h e
theorem putP_nd {ps : List (Pl × Value)} (h : (ps.map (·.1)).Nodup) (p : Pl) (v : Value) : ((putP ps p v).map (·.1)).Nodup := by
  unfold putP
  cases hf : findP p ps 0 with
  | none =>
    simp only
    rw [List.map_append]
    refine List.nodup_append.2 ⟨h, by simp, fun a ha b hb e => ?_⟩
    simp at hb
    subst hb
    subst e
    exact findP_no hf ha
  | some x =>
    obtain ⟨_, g2⟩ := findP_some (p := p) (v := x.2) (j := x.1) hf
    rw [Nat.sub_zero] at g2
    simp only
    rw [List.map_set]
    have : (ps.map (·.1)).set x.1 p = ps.map (·.1) := Go.WideElems.set_self _ _ _ (by rw [List.getElem?_map, g2]; rfl)
    rw [this]
    exact h
theorem getP_mem {ps : List (Pl × Value)} (h : (ps.map (·.1)).Nodup) {p : Pl} {v : Value} (hm : (p, v) ∈ ps) : getP ps p = v := by
  unfold getP
  cases hf : findP p ps 0 with
  | none => exact absurd (List.mem_map.2 ⟨(p, v), hm, rfl⟩) (findP_no hf)
  | some x =>
    obtain ⟨_, g2⟩ := findP_some (p := p) (v := x.2) (j := x.1) hf
    rw [Nat.sub_zero] at g2
    obtain ⟨j, hj⟩ := List.getElem?_of_mem hm
    have e1 : (ps.map (·.1))[x.1]? = some p := by rw [List.getElem?_map, g2]; rfl
    have e2 : (ps.map (·.1))[j]? = some p := by rw [List.getElem?_map, hj]; rfl
    have hlt : x.1 < (ps.map (·.1)).length := (List.getElem?_eq_some_iff.1 e1).1
    have := (List.getElem?_inj hlt h).1 (e1.trans e2.symm)
    subst this
    rw [g2] at hj
    injection hj with hj
    exact congrArg Prod.snd hj
/-- A map that keeps of each place its values. -/
structure BM (base gm : Nat) (l : List (Nat → Int)) (ps : List (Pl × Value)) (w : World) : Prop where
  mp : PMap w gm ps
  own : ∀ p, w.ownsRow base 24 2 (getP ps p) (onlyV l p).length (cellsV (onlyV l p))
  dis : ∀ p q b, p ≠ q → (getP ps p).ownBlock = some b → (getP ps q).ownBlock ≠ some b
  nd : (ps.map (·.1)).Nodup
theorem BM.new (w : World) : BM w.heap.size w.heap.size [] [] (w.alloc (.map #[] 0)) :=
  ⟨PMap.new w, fun _ => World.ownsRow_nil _ _ _ _, fun _ _ b _ h => by simp [getP, findP, Value.ownBlock] at h, by simp⟩
theorem BM.keep {base gm : Nat} {l : List (Nat → Int)} {ps : List (Pl × Value)} {w w' : World} (h : BM base gm l ps w) (hf : Fr w.heap.size [] w w') : BM base gm l ps w' :=
  ⟨h.mp.fr hf h.mp.lt (by simp), fun p => ownsRow_fr (h.own p) hf (fun q hq => ⟨((h.own p).lt q hq).2, by simp⟩), h.dis, h.nd⟩
/-- What the store of a longer list makes. -/
theorem BM.step {base gm : Nat} {l : List (Nat → Int)} {ps : List (Pl × Value)} {w w1 w2 w3 : World} {x : Nat → Int} {v : Value} (h : BM base gm l ps w)
    (f1 : Fr w.heap.size [gm] w w1) (hg : w1.grownBy w2 (getP ps (keyL x)).ownBlock) (hown : w2.ownsRow base 24 2 v ((onlyV l (keyL x)).length + 1) (cellsV (onlyV l (keyL x)) ++ valC (x 3, x 4)))
    (hat : v.ownBlock = (getP ps (keyL x)).ownBlock ∨ v.ownBlock = some w1.heap.size) (f3 : Fr w2.heap.size [gm] w2 w3) (hmp : PMap w3 gm (putP ps (keyL x) v)) : BM base gm (l ++ [x]) (putP ps (keyL x) v) w3 := by
  have hne : ∀ p, some gm ≠ (getP ps p).ownBlock := fun p => h.mp.ne_own (h.own p)
  have hgs := f1.size
  have hltg := h.mp.lt
  have hvne : v.ownBlock ≠ some gm := by
    rcases hat with hat | hat
    · rw [hat]; exact fun e => hne _ e.symm
    · rw [hat]; intro e; injection e with e; omega
  refine ⟨hmp, fun p => ?_, fun p q b hpq hp hq => ?_, putP_nd h.nd _ _⟩
  · rw [getP_put, onlyV_snoc]
    by_cases c : p = keyL x
    · subst c
      rw [if_pos rfl, if_pos rfl, List.length_append, cellsV_app]
      refine ownsRow_fr (n := (onlyV l (keyL x)).length + 1) ?_ f3 (fun q hq => ⟨(hown.lt q hq).2, ?_⟩)
      · have : cellsV [(x 3, x 4)] = valC (x 3, x 4) := by simp [cellsV]
        rw [this]; exact hown
      · simp only [List.mem_singleton]
        rintro rfl
        exact hvne hq
    · rw [if_neg c, if_neg c]
      have o1 := ownsRow_fr (h.own p) f1 (fun q hq => ⟨((h.own p).lt q hq).2, by simp only [List.mem_singleton]; rintro rfl; exact hne p hq.symm⟩)
      have o2 := o1.kept hg (by
        cases hv : (getP ps p).ownBlock with
        | none => exact .inl rfl
        | some b => exact .inr (fun e => h.dis p (keyL x) b c hv e.symm))
      exact ownsRow_fr o2 f3 (fun q hq => ⟨(o2.lt q hq).2, by simp only [List.mem_singleton]; rintro rfl; exact hne p hq.symm⟩)
  · rw [getP_put] at hp hq
    by_cases c : p = keyL x
    · rw [if_pos c] at hp
      have c2 : q ≠ keyL x := fun e => hpq (c.trans e.symm)
      rw [if_neg c2] at hq
      rcases hat with hat | hat
      · rw [hat] at hp
        exact h.dis (keyL x) q b (fun e => c2 e.symm) hp hq
      · rw [hat] at hp
        injection hp with hp
        have := ((h.own q).lt b hq).2
        omega
    · rw [if_neg c] at hp
      by_cases c2 : q = keyL x
      · rw [if_pos c2] at hq
        rcases hat with hat | hat
        · rw [hat] at hq
          exact h.dis (keyL x) p b (fun e => c e.symm) hq hp
        · rw [hat] at hq
          injection hq with hq
          have := ((h.own p).lt b hp).2
          omega
      · rw [if_neg c2] at hq
        exact h.dis p q b hpq hp hq
/-- What by leaves. -/
def ByOut (l : List (Nat → Int)) (w : World) (e : Ending) (w' : World) : Prop :=
  ∃ ps, e = .returned (.map (some w.heap.size)) ∧ BM w.heap.size w.heap.size l ps w' ∧ Fr w.heap.size [] w w'
set_option maxRecDepth 100000 in
set_option maxHeartbeats 1000000 in
theorem by_any (A : Option Addr) (c B : Nat) (l : List (Nat → Int)) (w : World) (hr : Reads w B 5 A l.length (cellsLn l)) (hB : B ≤ w.heap.size) (hn : l.length ≤ 1000000) :
    Calls Tryz.prog 49 #[.slice A l.length c] w (ByOut l w) := by
  have HR := Lib.hid hr
  obtain ⟨n, hnl⟩ : ∃ n, n = l.length := ⟨_, rfl⟩
  have HN := Lib.hid hnl
  rw [← hnl] at hn ⊢
  have hmm := @run_makeMap Tryz.prog
  clear hr hnl
  go_enter Tryz.func49, Tryz.ntmps49
  go_wp2_with fail
  have M0 := Lib.hid (BM.new w)
  have F0 := Lib.hid ((Fr.refl w.heap.size [] w).alloc (Nat.le_refl _) (.map #[] 0))
  clear hmm
  generalize w.alloc (.map #[] 0) = w0 at *
  go_loopg [5, 6, 10] n (fun g s5 s6 s10 wr => ∃ (k : Nat) (ps : List (Pl × Value)), k ≤ n ∧ g = n - k ∧ s10 = .int .i64 k ∧ (s5 = undef ∨ ∃ a, s5 = .pointer a) ∧ (s6 = undef ∨ ∃ a, s6 = .pointer a) ∧ RowKit.Hid (BM w.heap.size w.heap.size (l.take k) ps wr) ∧ RowKit.Hid (Fr w.heap.size [] w wr))
  case atStart => exact ⟨0, [], Nat.zero_le _, rfl, rfl, .inl rfl, .inl rfl, M0, F0⟩
  case round =>
    clear M0 F0
    obtain ⟨k, ps, hk, rfl, rfl, hs5, hs6, M, F⟩ := hrel
    by_cases hkn : k < n
    · have hki : (k : Int) < (n : Int) := by omega
      obtain ⟨x, hx⟩ : ∃ x, l[k]? = some x := ⟨_, List.getElem?_eq_getElem (by rw [← HN.out]; exact hkn)⟩
      obtain ⟨b, off, rfl, hb, hc⟩ := reads_ln (HR.out.fr F.out hB (by simp)) hx
      have p0 := hc 0 (by omega)
      have p1 := hc 1 (by omega)
      have p2 := hc 2 (by omega)
      have p3 := hc 3 (by omega)
      have p4 := hc 4 (by omega)
      simp only [Nat.add_zero, ← Nat.add_assoc] at p0 p1 p2 p3 p4
      have HTK := Lib.hid (show l.take (k + 1) = l.take k ++ [x] by rw [List.take_add_one, hx]; rfl)
      clear hc hx
      go_upto_region 6 with fail
      have BX := Lib.hid ((Blk.new wr 26 (lnA x)).alloc (.cells #[.int .i64 (x 0), .int .i64 (x 1), .int .i64 (x 2)] 93))
      have BP := Lib.hid (Blk.new (wr.alloc (.cells (lnA x) 26)) 93 #[.int .i64 (x 0), .int .i64 (x 1), .int .i64 (x 2)])
      have f2 := ((Fr.refl wr.heap.size [] wr).alloc (Nat.le_refl _) (.cells (lnA x) 26)).alloc (by simp) (.cells #[.int .i64 (x 0), .int .i64 (x 1), .int .i64 (x 2)] 93)
      have M2 := Lib.hid (M.out.keep f2)
      have F2 := Lib.hid (F.out.trans (f2.mono F.out.size (by simp)))
      simp only [lnA, World.size_alloc] at BX BP f2 M2 F2
      clear f2 M F p0 p1 p2 p3 p4
      generalize (wr.alloc _).alloc _ = wa at *
      have x3 := BX.out.cell 3
      have x4 := BX.out.cell 4
      have q0 := BP.out.cell 0
      have q1 := BP.out.cell 1
      have q2 := BP.out.cell 2
      simp at x3 x4 q0 q1 q2
      have M3 := Lib.hid (M2.out.keep ((Fr.refl wa.heap.size [] wa).alloc (Nat.le_refl _) (.cells #[.int .i64 (x 3), .int .i64 (x 4)] 24)))
      have BL := Lib.hid (Blk.new wa 24 #[.int .i64 (x 3), .int .i64 (x 4)])
      have F3 := Lib.hid (F2.out.alloc F2.out.size (.cells #[.int .i64 (x 3), .int .i64 (x 4)] 24))
      obtain ⟨st, wc, hme, f4, hs4, hst⟩ := M3.out.mp.entry (keyL x)
      obtain ⟨v0, hv0⟩ : ∃ v0, v0 = getP ps (keyL x) := ⟨_, rfl⟩
      obtain ⟨m, hm⟩ : ∃ m, m = (onlyV (l.take k) (keyL x)).length := ⟨_, rfl⟩
      have hml : m ≤ 1000000 := by have := onlyV_le (l.take k) (keyL x); rw [List.length_take] at this; omega
      have own0 := M3.out.own (keyL x)
      rw [← hv0, ← hm] at own0
      have hne := M3.out.mp.ne_own own0
      have own1 := ownsRow_fr own0 f4 (fun q hq => ⟨(own0.lt q hq).2, by simp only [List.mem_singleton]; rintro rfl; exact hne hq.symm⟩)
      have hlt := M3.out.mp.lt
      have BLc := Lib.hid (BL.out.fr f4 BL.out.lt (by simp only [List.mem_singleton]; exact fun e => M3.out.mp.ne BL.out e.symm))
      have hrd := Reads.of_blk (size := 2) (m := 1) BLc.out rfl
      have hwc : w.heap.size ≤ wc.heap.size := by rw [hs4]; exact F3.out.size
      rw [← hv0] at hme
      simp only [plV, keyL] at hme
      have HV0 := Lib.hid hv0
      have HM := Lib.hid hm
      have HST := Lib.hid hst
      have F4 := Lib.hid f4
      clear hst hv0 hm own0 f4 BL
      go_wp2_with (at_builtin; refine wpList_app _ rfl (.tmp 23) (.tmp 26) valTy rfl w.heap.size v0 m _ rfl own1 (wa.heap.size + 1) _ 1 1 _ rfl hrd (by simp [Value.oneCell']) (by omega) (by omega) hwc ?_; intro A2 c2 wd hown2 hg2 hat2; obtain ⟨we, hes, hmp, hfe, hse⟩ := HST.out wd (.slice A2 (m + 1) c2) (hg2.block _ (by rw [hs4]; exact hlt) hne))
      have F5 := Lib.hid (((F3.out.trans (F4.out.mono (B' := w.heap.size) (L' := []) F3.out.size (by simp))).grown hg2 hwc (fun q hq => .inl (own1.lt q hq).1)).trans (hfe.mono (B' := w.heap.size) (L' := []) (Nat.le_trans hwc hg2.size) (by simp)))
      rw [HV0.out] at hg2 hat2
      have M4 := Lib.hid (M3.out.step F4.out hg2 (by rw [← HM.out]; exact hown2) hat2 hfe hmp)
      rw [← HTK.out] at M4
      clear hown2 hg2 hat2 hes hmp hfe hse hme own1 hrd
      go_roundg (n - (k + 1))
      case measure => omega
      case rel => exact ⟨k + 1, _, by omega, rfl, by go_num, .inr ⟨_, rfl⟩, .inr ⟨_, rfl⟩, M4, F5⟩
    · obtain rfl : n = k := by omega
      go_wp2_with fail
      go_ret
      have h := M.out
      rw [List.take_of_length_le (by rw [HN.out]; exact Nat.le_refl _)] at h
      exact ⟨ps, rfl, h, F.out⟩
theorem vowns_empty (w : World) : (w.alloc (.cells #[] 24)).ownsRow w.heap.size 24 2 (.slice (some ⟨w.heap.size, 0, none⟩) 0 0) 0 [] := by
  refine ⟨rfl, .inr ⟨w.heap.size, 0, #[], rfl, Nat.le_refl _, Blk.new _ _ _, ?_⟩⟩
  simp
theorem vals_nil (A : Option Addr) (n c : Nat) (w : World) : (binOp .eql 30 (.slice A n c) (.slice none 0 0)).run Tryz.prog w = .ok (.bool A.isNone) w := by
  simp only [binOp]
  simp [run_equal_slice_nil w _ _ A n c Tryz.underlying30]
set_option maxRecDepth 100000 in
theorem vclone_any (A : Option Addr) (n c B : Nat) (l : List (Int × Int)) (w : World) (hl : n = l.length) (hn : n ≤ 1000000) (hr : Reads w B 2 A n (cellsV l)) (hB : B ≤ w.heap.size) :
    Calls Tryz.prog 51 #[.slice A n c] w fun e w' => ∃ A' c', e = .returned (.slice A' n c') ∧ w'.ownsRow w.heap.size 24 2 (.slice A' n c') n (cellsV l) ∧ Fr w.heap.size [] w w' := by
  rcases A with _ | ad
  · have h0 : n = 0 := by
      rcases Nat.eq_zero_or_pos n with h | h
      · exact h
      · obtain ⟨b, off, e, _⟩ := hr.2 h
        cases e
    subst h0
    have hle : l = [] := List.eq_nil_of_length_eq_zero hl.symm
    subst hle
    have hq : ∀ w, (binOp .eql 30 (.slice none 0 c) (.slice none 0 0)).run Tryz.prog w = .ok (.bool true) w := vals_nil none 0 c
    clear hr hn hl
    go_enter Tryz.func51, Tryz.ntmps51
    go_wp2_with fail
    go_ret
    exact ⟨none, 0, rfl, World.ownsRow_nil _ _ _ _, Fr.refl _ _ _⟩
  · have ho := vowns_empty w
    have hf := (Fr.refl w.heap.size [] w).alloc (Nat.le_refl _) (.cells #[] 24)
    have hr1 := hr.fr hf hB (by simp)
    have hs : w.heap.size < (w.alloc (.cells #[] 24)).heap.size := by simp
    have hq : ∀ w, (binOp .eql 30 (.slice (some ad) n c) (.slice none 0 0)).run Tryz.prog w = .ok (.bool false) w := vals_nil (some ad) n c
    clear hr hl
    go_enter Tryz.func51, Tryz.ntmps51
    go_wp2_with (at_builtin; refine wpList_app _ rfl (.tmp 5) (.tmp 6) valTy rfl w.heap.size (.slice (some ⟨w.heap.size, 0, none⟩) 0 0) 0 [] rfl ho B _ n _ (cellsV l) rfl hr1 valC_one (by omega) (by omega) (by simp) ?_; intro A2 c2 w2 hown2 hg2 hat2)
    go_ret
    rw [Nat.zero_add] at hown2
    exact ⟨A2, c2, rfl, by simpa using hown2, hf.grown hg2 (by simp) (fun k hk => .inl (by simp [Value.ownBlock] at hk; omega))⟩
/-- What both of the functions Only leave. -/
def OnlyOut (l : List (Nat → Int)) (p : Pl) (w : World) (e : Ending) (w' : World) : Prop :=
  ∃ A c, e = .returned (.slice A (onlyV l p).length c) ∧ w'.ownsRow w.heap.size 24 2 (.slice A (onlyV l p).length c) (onlyV l p).length (cellsV (onlyV l p)) ∧ Fr w.heap.size [] w w'
set_option maxRecDepth 100000 in
theorem only_any (A : Option Addr) (c B : Nat) (l : List (Nat → Int)) (s f k : Int) (w : World) (hr : Reads w B 5 A l.length (cellsLn l)) (hB : B ≤ w.heap.size) (hn : l.length ≤ 1000000) :
    Calls Tryz.prog 21 #[.slice A l.length c, .int .i64 s, .int .i64 f, .int .i64 k] w (OnlyOut l (s, f, k) w) := by
  have H := Lib.hid (by_any A c B l w hr hB hn)
  have HLE := Lib.hid (Nat.le_trans (onlyV_le l (s, f, k)) hn)
  clear hr hB hn
  obtain ⟨v, hv⟩ : ∃ v, v = onlyV l (s, f, k) := ⟨_, rfl⟩
  have HV := Lib.hid hv
  unfold OnlyOut
  rw [← hv] at HLE ⊢
  clear hv
  generalize l.length = n at *
  go_enter Tryz.func21, Tryz.ntmps21
  go_wp2_with fail
  refine H.out.mono ?_
  rintro e w1 ⟨ps, rfl, M, f1⟩
  have hlk := M.mp.look (s, f, k)
  have own := M.own (s, f, k)
  rw [← HV.out] at own
  obtain ⟨A1, c1, hs, _⟩ := ownsRow_shape own
  rw [hs] at hlk own
  simp only [plV] at hlk
  have HCL := Lib.hid (vclone_any A1 v.length c1 w1.heap.size v w1 rfl HLE.out (Reads.of_own own) (Nat.le_refl _))
  have F1 := Lib.hid f1
  clear M own hs f1
  go_wp2_with fail
  refine HCL.out.mono ?_
  rintro e w2 ⟨A2, c2, rfl, hown, f2⟩
  have F2 := Lib.hid (F1.out.trans (f2.mono F1.out.size (by simp)))
  have HO := Lib.hid (ownsRow_base hown F1.out.size)
  clear hown f2
  go_wp2_with fail
  go_ret
  exact ⟨A2, c2, rfl, HO.out, F2.out⟩
end Go.Proofs.YtfakgidimekikaaGreat
namespace Go.Proofs.YtfakgidimekikaaGreat
open Go.RowKit Go.Fb
theorem key_iff (x : Nat → Int) (s f k : Int) : ((s, f, k) = keyL x) ↔ (x 0 = s ∧ x 1 = f ∧ x 2 = k) := by
  unfold keyL
  simp only [Prod.mk.injEq]
  exact ⟨fun ⟨a, b, c⟩ => ⟨a.symm, b.symm, c.symm⟩, fun ⟨a, b, c⟩ => ⟨a.symm, b.symm, c.symm⟩⟩
set_option maxRecDepth 100000 in
set_option maxHeartbeats 1000000 in
theorem ronly_any (A : Option Addr) (c B : Nat) (l : List (Nat → Int)) (s f k : Int) (w : World) (hr : Reads w B 5 A l.length (cellsLn l)) (hB : B ≤ w.heap.size) (hn : l.length ≤ 1000000) :
    Calls Tryz.prog 22 #[.slice A l.length c, .int .i64 s, .int .i64 f, .int .i64 k] w (OnlyOut l (s, f, k) w) := by
  have HR := Lib.hid hr
  obtain ⟨n, hnl⟩ : ∃ n, n = l.length := ⟨_, rfl⟩
  have HN := Lib.hid hnl
  unfold OnlyOut
  rw [← hnl] at hn ⊢
  clear hr hnl
  go_enter Tryz.func22, Tryz.ntmps22
  go_wp2_with fail
  have O0 := Lib.hid (vowns_empty w)
  have F0 := Lib.hid ((Fr.refl w.heap.size [] w).alloc (Nat.le_refl _) (.cells #[] 24))
  generalize w.alloc (.cells #[] 24) = w0 at *
  go_loopg [9, 10] n (fun g s9 s10 wr => ∃ (j m : Nat) (A2 : Option Addr) (c2 : Nat), j ≤ n ∧ g = n - j ∧ s10 = .int .i64 j ∧ s9 = .slice A2 m c2 ∧ m ≤ j ∧ RowKit.Hid (m = (onlyV (l.take j) (s, f, k)).length) ∧ RowKit.Hid (wr.ownsRow w.heap.size 24 2 (.slice A2 m c2) m (cellsV (onlyV (l.take j) (s, f, k)))) ∧ RowKit.Hid (Fr w.heap.size [] w wr))
  case atStart => exact ⟨0, 0, some ⟨w.heap.size, 0, none⟩, 0, Nat.zero_le _, rfl, rfl, rfl, Nat.le_refl _, Lib.hid rfl, O0, F0⟩
  case round =>
    clear O0 F0
    obtain ⟨j, m, A2, c2, hj, rfl, rfl, rfl, hmj, HM, O, F⟩ := hrel
    by_cases hjn : j < n
    · have hji : (j : Int) < (n : Int) := by omega
      obtain ⟨x, hx⟩ : ∃ x, l[j]? = some x := ⟨_, List.getElem?_eq_getElem (by rw [← HN.out]; exact hjn)⟩
      obtain ⟨b, off, rfl, hb, hc⟩ := reads_ln (HR.out.fr F.out hB (by simp)) hx
      have p0 := hc 0 (by omega)
      have p1 := hc 1 (by omega)
      have p2 := hc 2 (by omega)
      have p3 := hc 3 (by omega)
      have p4 := hc 4 (by omega)
      simp only [Nat.add_zero, ← Nat.add_assoc] at p0 p1 p2 p3 p4
      have HTK := Lib.hid (show onlyV (l.take (j + 1)) (s, f, k) = if (s, f, k) = keyL x then onlyV (l.take j) (s, f, k) ++ [(x 3, x 4)] else onlyV (l.take j) (s, f, k) by rw [List.take_add_one, hx]; exact onlyV_snoc _ _ _)
      have HNO := Lib.hid (fun (h : ¬ (x 0 = s ∧ x 1 = f ∧ x 2 = k)) => (by rw [HTK.out, if_neg (fun e => h ((key_iff x s f k).1 e))] : onlyV (l.take (j + 1)) (s, f, k) = onlyV (l.take j) (s, f, k)))
      have hrest : ∀ w', w' = wr → (onlyV (l.take (j + 1)) (s, f, k) = onlyV (l.take j) (s, f, k)) → ∃ (j' m' : Nat) (A2' : Option Addr) (c2' : Nat), j' ≤ n ∧ n - (j + 1) = n - j' ∧ Value.int .i64 ((j : Int) + 1) = .int .i64 j' ∧ Value.slice A2 m c2 = .slice A2' m' c2' ∧ m' ≤ j' ∧ RowKit.Hid (m' = (onlyV (l.take j') (s, f, k)).length) ∧ RowKit.Hid (w'.ownsRow w.heap.size 24 2 (.slice A2' m' c2') m' (cellsV (onlyV (l.take j') (s, f, k)))) ∧ RowKit.Hid (Fr w.heap.size [] w w') := by
        rintro w' rfl h
        refine ⟨j + 1, m, A2, c2, by omega, rfl, by push_cast; rfl, rfl, by omega, ?_, ?_, F⟩
        · rw [h]; exact HM
        · rw [h]; exact O
      have HREST := Lib.hid hrest
      clear hrest hc hx
      by_cases h0 : x 0 = s
      case neg =>
        have hb0 : (x 0 == s) = false := by simpa using h0
        have HE := Lib.hid (HNO.out (fun h => h0 h.1))
        clear h0
        go_wp2_with fail
        go_roundg (n - (j + 1))
        case measure => omega
        case rel => exact HREST.out _ rfl HE.out
      by_cases h1 : x 1 = f
      case neg =>
        have hb0 : (x 0 == s) = true := by simpa using h0
        have hb1 : (x 1 == f) = false := by simpa using h1
        have HE := Lib.hid (HNO.out (fun h => h1 h.2.1))
        clear h0 h1
        go_wp2_with fail
        go_roundg (n - (j + 1))
        case measure => omega
        case rel => exact HREST.out _ rfl HE.out
      by_cases h2 : x 2 = k
      case neg =>
        have hb0 : (x 0 == s) = true := by simpa using h0
        have hb1 : (x 1 == f) = true := by simpa using h1
        have hb2 : (x 2 == k) = false := by simpa using h2
        have HE := Lib.hid (HNO.out (fun h => h2 h.2.2))
        clear h0 h1 h2
        go_wp2_with fail
        go_roundg (n - (j + 1))
        case measure => omega
        case rel => exact HREST.out _ rfl HE.out
      · have hb0 : (x 0 == s) = true := by simpa using h0
        have hb1 : (x 1 == f) = true := by simpa using h1
        have hb2 : (x 2 == k) = true := by simpa using h2
        have HE := Lib.hid (show onlyV (l.take (j + 1)) (s, f, k) = onlyV (l.take j) (s, f, k) ++ [(x 3, x 4)] by rw [HTK.out, if_pos ((key_iff x s f k).2 ⟨h0, h1, h2⟩)])
        have hown := O.out
        have hsz := F.out.size
        clear h0 h1 h2
        go_wp2_with (at_builtin; refine wpList_app_lit _ rfl (.tmp 43) (.tmp 49) valTy rfl w.heap.size (.slice A2 m c2) m _ rfl hown 1 1 _ rfl rfl (by simp [Value.oneCell']) (by omega) (by omega) hsz ?_; intro A3 c3 w3 hown3 hg3 hat3)
        have F4 := Lib.hid (F.out.trans (Fr.of_app hg3 hown hsz))
        have HO3 := Lib.hid hown3
        clear hown3 hg3 hat3 hown
        go_roundg (n - (j + 1))
        case measure => omega
        case rel => exact ⟨j + 1, m + 1, A3, c3, by omega, rfl, by go_num, rfl, by omega, Lib.hid (by rw [HE.out, List.length_append, ← HM.out]; rfl), by rw [HE.out, cellsV_app]; exact HO3, F4⟩
    · obtain rfl : n = j := by omega
      go_wp2_with fail
      go_ret
      have h := O.out
      have hm := HM.out
      rw [List.take_of_length_le (by rw [HN.out]; exact Nat.le_refl _)] at h hm
      rw [← hm]
      exact ⟨A2, c2, rfl, h, F.out⟩
set_option maxRecDepth 100000 in
theorem val_one_neq (a b : Int) (w : World) : (binOp .neq 24 (.agg #[.int .i64 a, .int .i64 b]) (.agg #[.int .i64 a, .int .i64 b])).run Tryz.prog w = .ok (.bool false) w := by
  have h : (Op.equalIn 10000 24 (.agg #[.int .i64 a, .int .i64 b]) (.agg #[.int .i64 a, .int .i64 b])).run Tryz.prog w = .ok true w := by
    rw [run_equalIn_struct w 9999 24 _ _ (by kernel_rfl) (by kernel_rfl)]
    simp [Program.fieldsOf, Tryz.underlying24, Op.eqFields, part, isAgg, run_underlying Tryz.underlying3, run_equalIn_int w 9998 3 .i64 .i64 _ _ Tryz.underlying3]
  simp [binOp, Op.equal, Op.maxDepth, h]
set_option maxRecDepth 100000 in
theorem vsame_yes {B1 B2 : Nat} {A1 A2 : Option Addr} {c1 c2 n : Nat} {l : List (Int × Int)} {w : World} (hn : n = l.length) (h1 : Reads w B1 2 A1 n (cellsV l)) (h2 : Reads w B2 2 A2 n (cellsV l)) (_hl : n ≤ 1000000) :
    Calls Tryz.prog 20 #[.slice A1 n c1, .slice A2 n c2] w fun e w' => e = .returned (.bool true) ∧ Fr w.heap.size [] w w' := by
  have H1 := Lib.hid h1
  have H2 := Lib.hid h2
  have HX := Lib.hid (fun (k : Nat) (hk : k < l.length) => (⟨l[k], List.getElem?_eq_getElem hk⟩ : ∃ x, l[k]? = some x))
  have HN := Lib.hid hn
  clear h1 h2 hn
  go_enter Tryz.func20, Tryz.ntmps20
  go_wp2_with fail
  go_loopw [5] (fun i wr => ∃ (k m : Nat), k ≤ n ∧ i = .int .i64 k ∧ wr = w.drewN m) (fun i _ => n - (intOf i).toNat)
  case atStart => exact ⟨0, 0, by omega, rfl, rfl⟩
  case round =>
    obtain ⟨k, m, hk, rfl, rfl⟩ := hrel
    by_cases hkn : k < n
    · obtain ⟨x, hx⟩ := HX.out k (by rw [← HN.out]; exact hkn)
      obtain ⟨b1, o1, rfl, hb1, p0, p1⟩ := reads_val (by rw [← HN.out]; exact H1.out) hx
      obtain ⟨b2, o2, rfl, hb2, q0, q1⟩ := reads_val (by rw [← HN.out]; exact H2.out) hx
      have hki : (k : Int) < (n : Int) := by omega
      have hnq := fun w => val_one_neq x.1 x.2 w
      clear hx
      go_wp2_with fail
      go_quiet (fail)
      go_wp2_with fail
      go_roundw
      case rel => exact ⟨k + 1, _, by omega, by go_num, rfl⟩
      case measure => simp [intOf]; omega
    · obtain rfl : k = n := by omega
      go_wp2_with fail
      go_ret
      exact ⟨rfl, (Fr.refl _ _ _).drewN _⟩
end Go.Proofs.YtfakgidimekikaaGreat
