/- Texts merged into one, for the number of files a claim may have: CtE, CtF, RmA, RmB, DnS, DnT, DnG, DnU, RmC, RmP. -/
import Derived.Test.YthfibggbipkmfaaGreatDX6
import Derived.Test.YthfibggbipkmfaaGreatDX8
import Derived.Test.YthfibggbipkmfaaGreatDX9
import Derived.Test.YthfibggbipkmfaaGreatDX12
import Derived.Test.YthfibggbipkmfaaGreatDX13
import Derived.Test.YthfibggbipkmfaaGreatDX14
import Derived.Test.YthfibggbipkmfaaGreatDX19
import Derived.Test.YthfibggbipkmfaaGreatDX20
import Derived.Test.YthfibggbipkmfaaGreatDX21
import Derived.Test.YthfibggbipkmfaaGreatDX22
import Derived.Deep.DeepCutAuto
import Derived.Deep.RegionHeld3
import Derived.Shelf.SlMaps.Clone
namespace Go.Proofs.YthfibggbipkmfaaGreat
open Go.RowKit Go.Fb
set_option linter.unusedVariables false
set_option maxRecDepth 100000 in
theorem all1_any (p : Pk) (w : World) : Calls Tryz.prog 34 #[pkV p] w fun e w' => e = .returned (.bool true) ∧ Fr w.heap.size [] w w' := by
  go_enter Tryz.func34, Tryz.ntmps34
  go_wp2_with fail
  go_ret
  exact ⟨rfl, (Fr.refl _ _ _).alloc (Nat.le_refl _) _⟩
set_option maxRecDepth 100000 in
theorem call_any (gt gm : Nat) (T : Pk → CV) (hok : TOk T) (w : World) (h : CT w gt gm T) :
    Calls Tryz.prog 15 #[.pointer (some ⟨gt, 0, none⟩)] w (EntsOut (allT T) w) := by
  have H := Lib.hid (csome_any 34 #[] (fun _ => true) gt gm T hok w h (enters_of Tryz.func34 (by kernel_rfl) rfl) (fun p w' _ => by exact all1_any p w'))
  obtain ⟨l, hl⟩ : ∃ l, l = allT T := ⟨_, rfl⟩
  have H2 := Lib.hid (by rw [hl]; exact H.out : Calls Tryz.prog 33 #[.pointer (some ⟨gt, 0, none⟩), .func (.func 34) #[] #[]] w (EntsOut l w))
  rw [← hl]
  clear H hl h hok
  go_enter Tryz.func15, Tryz.ntmps15
  go_wp2_with fail
  refine H2.out.mono ?_
  rintro e w' ⟨A, c, rfl, h1, h2, h3, h4⟩
  have P := Lib.hid (And.intro h1 (And.intro h2 (And.intro h3 h4)))
  clear h1 h2 h3 h4 H2
  go_wp2_with fail
  go_ret
  exact ⟨A, c, rfl, P.out.1, P.out.2.1, P.out.2.2.1, P.out.2.2.2⟩
/-- Is a place a node's, of one of these groups? -/
def ofB (node : Int) (xs : List Int) (p : Pk) : Bool := decide (p.1 = node) && hasI xs (p.2 % 8)
set_option maxRecDepth 100000 in
set_option maxHeartbeats 2000000 in
theorem of1_any (gn gg : Nat) (node : Int) (Ag : Option Addr) (ng cg B : Nat) (xs : List Int) (p : Pk) (w : World) (h1 : Blk w gn 3 #[.int .i64 node]) (h2 : Blk w gg 45 #[.slice Ag ng cg]) (hn : ng = xs.length) (hm : ng ≤ 1000000) (hr : Reads w B 1 Ag ng (xs.map (Value.int .i64))) (hB : B ≤ w.heap.size) :
    Calls Tryz.prog 160 #[pkV p, .pointer (some ⟨gn, 0, none⟩), .pointer (some ⟨gg, 0, none⟩)] w fun e w' => e = .returned (.bool (ofB node xs p)) ∧ Fr w.heap.size [] w w' := by
  have fa := (Fr.refl w.heap.size [] w).alloc (Nat.le_refl _) (.cells #[.int .i64 p.1, .int .i64 p.2] 89)
  have B1 := Lib.hid (h1.alloc (.cells #[.int .i64 p.1, .int .i64 p.2] 89))
  have B2 := Lib.hid (h2.alloc (.cells #[.int .i64 p.1, .int .i64 p.2] 89))
  have BP := Lib.hid (Blk.new w 89 #[.int .i64 p.1, .int .i64 p.2])
  have HR := Lib.hid (hr.fr fa hB (by simp))
  have FA := Lib.hid fa
  have hs1 : w.heap.size < (w.alloc (.cells #[.int .i64 p.1, .int .i64 p.2] 89)).heap.size := by simp
  obtain ⟨w1, hw1⟩ : ∃ w1, w1 = w.alloc (.cells #[.int .i64 p.1, .int .i64 p.2] 89) := ⟨_, rfl⟩
  rw [← hw1] at B1 B2 BP HR FA hs1
  obtain ⟨g, hg⟩ : ∃ g, g = w.heap.size := ⟨_, rfl⟩
  rw [← hg] at BP
  have HG := Lib.hid hg
  have HW := Lib.hid hw1
  have SF := Lib.hid (fun (W : World) (h : Fr w1.heap.size [] w1 W) => (⟨(BP.out.fr h BP.out.lt (by simp)).cell 0, (BP.out.fr h BP.out.lt (by simp)).cell 1, (B1.out.fr h B1.out.lt (by simp)).cell 0, (B2.out.fr h B2.out.lt (by simp)).cell 0⟩ : W.cell? ⟨g, 0, none⟩ = some (.int .i64 p.1) ∧ W.cell? ⟨g, 1, none⟩ = some (.int .i64 p.2) ∧ W.cell? ⟨gn, 0, none⟩ = some (.int .i64 node) ∧ W.cell? ⟨gg, 0, none⟩ = some (.slice Ag ng cg)))
  have HCN := Lib.hid (fun (W : World) (h : Fr w1.heap.size [] w1 W) => ihas_any (p.2 % 8) Ag cg B ng xs W hn hm (HR.out.fr h (by omega) (by simp)) (by have := h.size; omega))
  have HGR := Lib.hid (group_any p.2)
  obtain ⟨v, hv⟩ : ∃ v, v = ofB node xs p := ⟨_, rfl⟩
  obtain ⟨hb, hhb⟩ : ∃ v, v = hasI xs (p.2 % 8) := ⟨_, rfl⟩
  rw [← hhb] at HCN
  rw [← hv]
  unfold ofB at hv
  rw [← hhb] at hv
  clear h1 h2 hr hhb hg hw1 fa hn
  by_cases he : p.1 = node
  · have hbq : (p.1 == node) = true := by simpa using he
    rw [decide_eq_true he, Bool.true_and] at hv
    subst hv
    have HEE := Lib.hid he
    clear he
    go_enter Tryz.func160, Tryz.ntmps160
    go_upto_region 1 with fail
    rw [← HW.out, ← HG.out]
    have INV := Lib.hid (Fr.refl w1.heap.size [] w1).drew
    go_region_held3 (fun W => W.cell? ⟨g, 0, none⟩ = some (.int .i64 p.1) ∧ W.cell? ⟨g, 1, none⟩ = some (.int .i64 p.2) ∧ W.cell? ⟨gn, 0, none⟩ = some (.int .i64 node) ∧ W.cell? ⟨gg, 0, none⟩ = some (.slice Ag ng cg)) (exact SF.out _ INV.out)
      ((first | (go_at_call 161; refine (HGR.out _).mono ?_; rintro e wv ⟨rfl, rfl⟩) | (go_at_call 37; refine (HCN.out _ INV.out).mono ?_; rintro e wv ⟨rfl, fv⟩; have INV := Lib.hid (INV.out.trans (fv.mono INV.out.size (by simp))); clear fv)))
    all_goals
      go_wp2_with fail
      go_ret
      exact ⟨rfl, FA.out.trans (INV.out.mono FA.out.size (by simp))⟩
  · have hbq : (p.1 == node) = false := by simpa using he
    rw [decide_eq_false he, Bool.false_and] at hv
    subst hv
    clear he
    go_enter Tryz.func160, Tryz.ntmps160
    go_upto_region 1 with fail
    rw [← HW.out, ← HG.out]
    obtain ⟨s0, s1, s2, s3⟩ := SF.out w1 (Fr.refl _ _ _)
    go_quiet (fail)
    go_wp2_with fail
    go_ret
    exact ⟨rfl, FA.out.drewN _⟩
set_option maxRecDepth 100000 in
set_option maxHeartbeats 2000000 in
theorem cof_any (gt gm : Nat) (T : Pk → CV) (hok : TOk T) (node : Int) (Ag : Option Addr) (ng cg B : Nat) (xs : List Int) (w : World) (h : CT w gt gm T) (hn : ng = xs.length) (hm : ng ≤ 1000000) (hr : Reads w B 1 Ag ng (xs.map (Value.int .i64))) (hB : B ≤ w.heap.size) :
    Calls Tryz.prog 138 #[.pointer (some ⟨gt, 0, none⟩), .int .i64 node, .slice Ag ng cg] w (EntsOut (someE (ofB node xs) T) w) := by
  have fa := ((Fr.refl w.heap.size [] w).alloc (Nat.le_refl _) (.cells #[.int .i64 node] 3)).alloc (by simp) (.cells #[.slice Ag ng cg] 45)
  have b1 := (Blk.new w 3 #[.int .i64 node]).alloc (.cells #[.slice Ag ng cg] 45)
  have b2 := Blk.new (w.alloc (.cells #[.int .i64 node] 3)) 45 #[.slice Ag ng cg]
  rw [World.size_alloc] at b2
  have hs1 : w.heap.size + 1 < ((w.alloc (.cells #[.int .i64 node] 3)).alloc (.cells #[.slice Ag ng cg] 45)).heap.size := by simp
  have CT1 := h.keep fa
  have hr1 := hr.fr fa hB (by simp)
  obtain ⟨w1, hw1⟩ : ∃ w1, w1 = (w.alloc (.cells #[.int .i64 node] 3)).alloc (.cells #[.slice Ag ng cg] 45) := ⟨_, rfl⟩
  rw [← hw1] at fa b1 b2 CT1 hr1 hs1
  obtain ⟨l, hl⟩ : ∃ l, l = someE (ofB node xs) T := ⟨_, rfl⟩
  have H := Lib.hid (by
    rw [hl]
    exact csome_any 160 #[.pointer (some ⟨w.heap.size, 0, none⟩), .pointer (some ⟨w.heap.size + 1, 0, none⟩)] (ofB node xs) gt gm T hok w1 CT1 (enters_of Tryz.func160 (by kernel_rfl) rfl) (fun p w' hf => by exact of1_any w.heap.size (w.heap.size + 1) node Ag ng cg B xs p w' (b1.fr hf b1.lt (by simp)) (b2.fr hf b2.lt (by simp)) hn hm (hr1.fr hf (by omega) (by simp)) (by have := hf.size; omega)) : Calls Tryz.prog 33 #[.pointer (some ⟨gt, 0, none⟩), .func (.func 160) #[] #[.pointer (some ⟨w.heap.size, 0, none⟩), .pointer (some ⟨w.heap.size + 1, 0, none⟩)]] w1 (EntsOut l w1))
  have HW := Lib.hid hw1
  have FA := Lib.hid fa
  rw [← hl]
  clear hl h hok b1 b2 CT1 hr hr1 fa hw1 hn
  go_enter Tryz.func138, Tryz.ntmps138
  go_upto_region 1 with fail
  rw [← HW.out]
  go_wp2_with fail
  refine H.out.mono ?_
  rintro e w' ⟨A, c, rfl, h1, h2, h3, h4⟩
  have P := Lib.hid (And.intro h1 (And.intro h2 (And.intro h3 h4)))
  clear h1 h2 h3 h4 H
  go_wp2_with fail
  go_ret
  exact ⟨A, c, rfl, P.out.1, P.out.2.1, fun ad had => by have := P.out.2.2.1 ad had; omega, FA.out.trans (P.out.2.2.2.mono FA.out.size (by simp))⟩
/-- What is left when places are dropped. -/
def dropQ (q : Pk → Bool) (T : Pk → CV) : Pk → CV := fun p => if q p = true then c0 else T p
def delP (T : Pk → CV) (P : List Pk) : Pk → CV := P.foldl (fun T p => updT T p c0) T
theorem delP_snoc (T : Pk → CV) (P : List Pk) (p : Pk) : delP T (P ++ [p]) = updT (delP T P) p c0 := by unfold delP; rw [List.foldl_append]; rfl
theorem delP_at : ∀ (P : List Pk) (T : Pk → CV) (p : Pk), delP T P p = if p ∈ P then c0 else T p
  | [], T, p => by simp [delP]
  | a :: P, T, p => by
    have ih := delP_at P (updT T a c0) p
    have e : delP T (a :: P) = delP (updT T a c0) P := rfl
    rw [e, ih]
    by_cases h : p ∈ P
    · simp [h]
    · by_cases h2 : p = a
      · simp [h2, updT]
      · simp [h, h2, updT]
theorem delP_some {q : Pk → Bool} {T : Pk → CV} (hok : TOk T) : delP T (someT q T) = dropQ q T := by
  funext p
  rw [delP_at]
  unfold dropQ
  by_cases hq : q p = true
  · rw [if_pos hq]
    by_cases hT : T p = c0
    · rw [hT]; simp
    · rw [if_pos (someT_mem.2 ⟨(hok p hT).1, hT, hq⟩)]
  · rw [if_neg hq, if_neg (fun h => hq (someT_mem.1 h).2.2)]
theorem TOk.drop {T : Pk → CV} (h : TOk T) (q : Pk → Bool) : TOk (dropQ q T) := by
  intro p hp
  unfold dropQ at hp ⊢
  by_cases hq : q p = true
  · rw [if_pos hq] at hp; exact absurd rfl hp
  · rw [if_neg hq] at hp ⊢; exact h p hp
/-- What Drop leaves. -/
def DropOut (gt gm : Nat) (T : Pk → CV) (w : World) (e : Ending) (w' : World) : Prop := e = .returned (.tuple #[]) ∧ CT w' gt gm T ∧ Fr w.heap.size [gm] w w'
set_option maxRecDepth 100000 in
set_option maxHeartbeats 4000000 in
theorem cdrop_any (gt gm : Nat) (T : Pk → CV) (hok : TOk T) (node : Int) (Ag : Option Addr) (ng cg B : Nat) (xs : List Int) (w : World) (h : CT w gt gm T) (hn : ng = xs.length) (hm : ng ≤ 1000000) (hr : Reads w B 1 Ag ng (xs.map (Value.int .i64))) (hB : B ≤ w.heap.size) :
    Calls Tryz.prog 103 #[.pointer (some ⟨gt, 0, none⟩), .int .i64 node, .slice Ag ng cg] w (DropOut gt gm (dropQ (ofB node xs) T) w) := by
  have H := Lib.hid (cof_any gt gm T hok node Ag ng cg B xs w h hn hm hr hB)
  obtain ⟨P, hP⟩ : ∃ P, P = someT (ofB node xs) T := ⟨_, rfl⟩
  have HEND := Lib.hid (show delP T P = dropQ (ofB node xs) T by rw [hP]; exact delP_some hok)
  have HPN := Lib.hid (show ∀ p ∈ P, p.1 = node from fun p hp => by
    rw [hP] at hp
    have := (someT_mem.1 hp).2.2
    unfold ofB at this
    rw [Bool.and_eq_true] at this
    exact of_decide_eq_true this.1)
  have hlen : P.length ≤ 512 := by
    rw [hP]
    unfold someT
    refine Nat.le_trans (List.length_filter_le _ _) ?_
    unfold plcs
    simp
  have HL := Lib.hid (show someE (ofB node xs) T = P.map fun p => entF p (T p) by rw [hP]; rfl)
  obtain ⟨l, hl⟩ : ∃ l, l = someE (ofB node xs) T := ⟨_, rfl⟩
  rw [← hl] at H HL
  obtain ⟨TD, hTD⟩ : ∃ D, D = dropQ (ofB node xs) T := ⟨_, rfl⟩
  rw [← hTD] at HEND ⊢
  have HC := Lib.hid h
  have hltm := h.mp.lt
  have hltt := h.bk.lt
  have hll : l.length = P.length := by rw [HL.out, List.length_map]
  obtain ⟨n, hnl⟩ : ∃ n, n = l.length := ⟨_, rfl⟩
  have HN := Lib.hid hnl
  have hn512 : n ≤ 512 := by omega
  clear h hP hl hTD hr hn hok
  unfold EntsOut at H
  rw [← hnl] at H
  clear hnl hll
  go_enter Tryz.func103, Tryz.ntmps103
  go_wp2_with fail
  refine H.out.mono ?_
  rintro e w1 ⟨A, c, rfl, h1, h2, h3, h4⟩
  have HR := Lib.hid h1
  have HAP := Lib.hid (show 0 < n → ∀ ad, A = some ad → ad.block ∉ [gm] from fun _ ad had => by have := h3 ad had; simp; omega)
  have F1 := Lib.hid h4
  have HC1 := Lib.hid (HC.out.keep h4)
  have hs1 := h4.size
  clear h1 h3 h4 H HC
  go_wp2_with fail
  go_loopg [7, 13] n (fun g s7 s13 wr => ∃ k : Nat, k ≤ n ∧ g = n - k ∧ s13 = .int .i64 k ∧ (s7 = undef ∨ ∃ a, s7 = .pointer a) ∧ RowKit.Hid (CT wr gt gm (delP T (P.take k))) ∧ RowKit.Hid (Fr w1.heap.size [gm] w1 wr))
  case atStart => exact ⟨0, Nat.zero_le _, rfl, rfl, .inl rfl, HC1, Lib.hid (Fr.refl _ _ _)⟩
  case round =>
    obtain ⟨k, hk, rfl, rfl, hs7, C, F⟩ := hrel
    by_cases hkn : k < n
    · have hki : (k : Int) < (n : Int) := by omega
      have hkP : k < P.length := by have := HN.out; rw [HL.out, List.length_map] at this; omega
      obtain ⟨p, hp⟩ : ∃ p, P[k]? = some p := ⟨_, List.getElem?_eq_getElem hkP⟩
      have hx : l[k]? = some (entF p (T p)) := by rw [HL.out, List.getElem?_map, hp]; rfl
      obtain ⟨t, ht⟩ : ∃ t, t = T p := ⟨_, rfl⟩
      rw [← ht] at hx
      obtain ⟨b, off, rfl, hb, hc⟩ := reads_ent (by rw [← HN.out]; exact HR.out.frL F.out (Nat.le_refl _) HAP.out) hx
      have p0 : wr.cell? ⟨b, off + (k * 6 + 0), none⟩ = some (.int .i64 p.1) := hc 0 (by omega)
      have p1 : wr.cell? ⟨b, off + (k * 6 + 1), none⟩ = some (.int .i64 p.2) := hc 1 (by omega)
      have p2 : wr.cell? ⟨b, off + (k * 6 + 2), none⟩ = some (.int .i64 t.1) := hc 2 (by omega)
      have p3 : wr.cell? ⟨b, off + (k * 6 + 3), none⟩ = some (.int .i64 t.2.1) := hc 3 (by omega)
      have p4 : wr.cell? ⟨b, off + (k * 6 + 4), none⟩ = some (.int .i64 t.2.2.1) := hc 4 (by omega)
      have p5 : wr.cell? ⟨b, off + (k * 6 + 5), none⟩ = some (.int .i64 t.2.2.2) := hc 5 (by omega)
      simp only [Nat.add_zero, ← Nat.add_assoc] at p0 p1 p2 p3 p4 p5
      have HTK := Lib.hid (show delP T (P.take (k + 1)) = updT (delP T (P.take k)) p c0 by rw [List.take_add_one, hp]; exact delP_snoc _ _ _)
      have hpn := HPN.out p (List.mem_of_getElem? hp)
      have HPE := Lib.hid hpn
      clear hpn
      clear hc hx hp ht
      have BX := Lib.hid (Blk.new wr 78 #[.int .i64 p.1, .int .i64 p.2, .int .i64 t.1, .int .i64 t.2.1, .int .i64 t.2.2.1, .int .i64 t.2.2.2])
      have fx := (Fr.refl wr.heap.size [] wr).alloc (Nat.le_refl _) (.cells #[.int .i64 p.1, .int .i64 p.2, .int .i64 t.1, .int .i64 t.2.1, .int .i64 t.2.2.1, .int .i64 t.2.2.2] 78)
      have C1 := Lib.hid (C.out.keep fx)
      have F2 := Lib.hid (F.out.trans (fx.mono (B' := w1.heap.size) (L' := [gm]) F.out.size (by simp)))
      clear fx
      go_upto_region 3 with fail
      generalize wr.alloc _ = wa at *
      generalize wr.heap.size = ga at *
      obtain ⟨w3, hdel, hm3, f3, hs3⟩ := (C1.out.mp.fr (Fr.refl wa.heap.size [] wa).drew C1.out.mp.lt (by simp)).del p
      have x1 := BX.out.cell 1
      have t0 := C1.out.bk.cell 0
      simp at x1 t0
      have x1d : wa.drew.cell? ⟨ga, 1, none⟩ = some (.int .i64 p.2) := x1
      have t0d : wa.drew.cell? ⟨gt, 0, none⟩ = some (.map (some gm)) := t0
      have HM3 := Lib.hid hm3
      have F3 := Lib.hid (F2.out.trans (((Fr.refl wa.heap.size [gm] wa).drew.trans f3).mono (B' := w1.heap.size) (L' := [gm]) F2.out.size (by simp)))
      have C3 := Lib.hid (show CT w3 gt gm (updT (delP T (P.take k)) p c0) from ⟨C1.out.bk.drew.fr f3 C1.out.bk.lt (by simp only [List.mem_singleton]; exact fun e => C1.out.mp.ne C1.out.bk e.symm), hm3⟩)
      have hdel2 : ∀ ty, (Builtin.delete_ #[73, 89] ty #[.map (some gm), .agg #[.int .i64 node, .int .i64 p.2]]).run Tryz.prog wa.drew = .ok (.tuple #[]) w3 := fun ty => by rw [← HPE.out]; exact hdel ty
      clear hm3 f3 hs3 hdel p0 p1 p2 p3 p4 p5 x1 t0
      have t0w : wa.cell? ⟨gt, 0, none⟩ = some (.map (some gm)) := t0d
      have x1w : wa.cell? ⟨ga, 1, none⟩ = some (.int .i64 p.2) := x1d
      go_region_with fail
      all_goals
        go_wp2_with fail
        go_roundg (n - (k + 1))
        case measure => omega
        case rel => exact ⟨k + 1, by omega, rfl, by go_num, .inr ⟨_, rfl⟩, by rw [HTK.out]; exact C3, F3⟩
    · obtain rfl : n = k := by omega
      have hC := C.out
      rw [List.take_of_length_le (by have := HN.out; rw [HL.out, List.length_map] at this; omega), HEND.out] at hC
      have HC9 := Lib.hid hC
      clear hC
      go_wp2_with fail
      exact bodyPost_ret (results_none rfl _ _ _) rfl ⟨rfl, HC9.out, (F1.out.mono (by simp) (by simp)).trans (F.out.mono hs1 (by simp))⟩
end Go.Proofs.YthfibggbipkmfaaGreat
namespace Go.Proofs.YthfibggbipkmfaaGreat
open Go.RowKit Go.Fb Go.Maps
set_option linter.unusedVariables false
end Go.Proofs.YthfibggbipkmfaaGreat
namespace Go.Proofs.YthfibggbipkmfaaGreat
open Go.RowKit Go.Fb
set_option linter.unusedVariables false
def intsK (k : Nat) : List Int := (List.range k).map fun j : Nat => (j : Int)
theorem intsK_succ (k : Nat) : intsK (k + 1) = intsK k ++ [(k : Int)] := by unfold intsK; rw [List.range_succ, List.map_append]; rfl
theorem intsK_has (x : Int) : hasI (intsK 8) (x % 8) = true := by
  unfold hasI intsK
  rw [List.any_eq_true]
  refine ⟨x % 8, List.mem_map.2 ⟨(x % 8).toNat, List.mem_range.2 (by omega), by omega⟩, by simp⟩
set_option maxRecDepth 100000 in
set_option maxHeartbeats 2000000 in
theorem rall_any (w : World) : Calls Tryz.prog 104 #[] w fun e w' => ∃ A c, e = .returned (.slice A 8 c) ∧ Reads w' w'.heap.size 1 A 8 ((intsK 8).map (Value.int .i64)) ∧ Fr w.heap.size [] w w' := by
  go_enter Tryz.func104, Tryz.ntmps104
  go_wp2_with fail
  go_loopg [1, 2, 3] 8 (fun g s1 s2 s3 wr => ∃ (k : Nat) (A : Option Addr) (c : Nat), k ≤ 8 ∧ g = 8 - k ∧ s1 = .slice A k c ∧ s3 = .int .i64 k ∧ (s2 = undef ∨ ∃ i : Int, s2 = .int .i64 i) ∧ RowKit.Hid (wr.ownsRow w.heap.size 3 1 (.slice A k c) k ((intsK k).map (Value.int .i64))) ∧ RowKit.Hid (Fr w.heap.size [] w wr))
  case atStart => exact ⟨0, none, 0, by omega, rfl, rfl, rfl, .inl rfl, Lib.hid (World.ownsRow_nil _ _ _ _), Lib.hid (Fr.refl _ _ _)⟩
  case round =>
    obtain ⟨k, A, c, hk, rfl, rfl, rfl, hs2, HO, F⟩ := hrel
    by_cases hk8 : k < 8
    · have hki : (k : Int) < 8 := by omega
      have hsz : w.heap.size ≤ wr.heap.size := F.out.size
      go_wp2_with (at_builtin; refine wpList_app_lit wr rfl (.tmp 6) (.tmp 8) intsTy rfl w.heap.size (.slice A k c) k ((intsK k).map (Value.int .i64)) rfl HO.out 1 1 #[.int .i64 (k : Int)] rfl rfl (by simp [Value.oneCell']) (by omega) (by omega) hsz ?_; intro A2 c2 w2 hown2 hg2 hat2)
      have HO2 := Lib.hid (show w2.ownsRow w.heap.size 3 1 (.slice A2 (k + 1) c2) (k + 1) ((intsK (k + 1)).map (Value.int .i64)) by rw [intsK_succ, List.map_append]; exact hown2)
      have F2 := Lib.hid ((F.out.alloc hsz _).grown hg2 (by simp; omega) (fun q hq => .inl (HO.out.lt q hq).1))
      clear hown2 hg2 hat2
      go_roundg (8 - (k + 1))
      case measure => omega
      case rel => exact ⟨k + 1, A2, c2, by omega, rfl, rfl, by go_num, .inr ⟨_, rfl⟩, HO2, F2⟩
    · obtain rfl : k = 8 := by omega
      go_wp2_with fail
      go_ret
      exact ⟨A, c, rfl, Reads.of_own HO.out, F.out⟩
/-- Does a step drop what a node keeps? -/
def dropsB (s : Stp) : Bool := (decide (s.kind = 1) && s.rs) || (decide (s.kind = 3) || decide (s.kind = 2))
def nodeQ (id : Int) (p : Pk) : Bool := decide (p.1 = id)
def keptT (s : Stp) (T : Pk → CV) : Pk → CV := if dropsB s = true then dropQ (nodeQ s.nd.id) T else T
def stpE (s : Stp) : Int := if s.kind < 1 ∨ 5 < s.kind then 11 else 0
theorem ofB_all (id : Int) : ofB id (intsK 8) = nodeQ id := by
  funext p
  unfold ofB nodeQ
  rw [intsK_has, Bool.and_true]
theorem TOk.kept {T : Pk → CV} (h : TOk T) (s : Stp) : TOk (keptT s T) := by
  unfold keptT
  split
  · exact h.drop _
  · exact h
/-- What Step leaves. -/
def RmOut (gt gm : Nat) (r : Int) (T : Pk → CV) (w : World) (e : Ending) (w' : World) : Prop := e = .returned (.int .i64 r) ∧ CT w' gt gm T ∧ Fr w.heap.size [gm] w w'
theorem rm_bad {s : Stp} (h : s.kind < 1 ∨ 5 < s.kind) : stpE s = 11 := if_pos h
theorem rm_ok {s : Stp} (h : 1 ≤ s.kind ∧ s.kind ≤ 5) : stpE s = 0 := if_neg (by omega)
set_option maxRecDepth 100000 in
set_option maxHeartbeats 4000000 in
theorem rmstep_any (gt gm : Nat) (T : Pk → CV) (hok : TOk T) (s : Stp) (sf sp : Value) (w : World) (h : CT w gt gm T) :
    Calls Tryz.prog 76 #[.pointer (some ⟨gt, 0, none⟩), .agg (stV s sf sp)] w (RmOut gt gm (stpE s) (if stpE s = 0 then keptT s T else T) w) := by
  have fa := (Fr.refl w.heap.size [] w).alloc (Nat.le_refl _) (.cells #[.int .i64 s.kind, .int .i64 s.nd.id, .int .i64 s.nd.kind, sf, sp, .int .i64 s.nd.par, .int .i64 (s.nd.rt 0), .int .i64 (s.nd.rt 1), .int .i64 (s.nd.rt 2), .int .i64 (s.nd.rt 3), .int .i64 (s.nd.rt 4), .int .i64 (s.nd.rt 5), .int .i64 (s.nd.rt 6), .int .i64 (s.nd.rt 7), .bool s.rs] 110)
  have BS := Lib.hid (Blk.new w 110 #[.int .i64 s.kind, .int .i64 s.nd.id, .int .i64 s.nd.kind, sf, sp, .int .i64 s.nd.par, .int .i64 (s.nd.rt 0), .int .i64 (s.nd.rt 1), .int .i64 (s.nd.rt 2), .int .i64 (s.nd.rt 3), .int .i64 (s.nd.rt 4), .int .i64 (s.nd.rt 5), .int .i64 (s.nd.rt 6), .int .i64 (s.nd.rt 7), .bool s.rs])
  have HC := Lib.hid (h.keep fa)
  have FA := Lib.hid fa
  obtain ⟨w1, hw1⟩ : ∃ w1, w1 = w.alloc (.cells #[.int .i64 s.kind, .int .i64 s.nd.id, .int .i64 s.nd.kind, sf, sp, .int .i64 s.nd.par, .int .i64 (s.nd.rt 0), .int .i64 (s.nd.rt 1), .int .i64 (s.nd.rt 2), .int .i64 (s.nd.rt 3), .int .i64 (s.nd.rt 4), .int .i64 (s.nd.rt 5), .int .i64 (s.nd.rt 6), .int .i64 (s.nd.rt 7), .bool s.rs] 110) := ⟨_, rfl⟩
  rw [← hw1] at BS HC FA
  obtain ⟨g, hg⟩ : ∃ g, g = w.heap.size := ⟨_, rfl⟩
  rw [← hg] at BS
  have HG := Lib.hid hg
  have HW := Lib.hid hw1
  have k0 := BS.out.cell 0
  have k1 := BS.out.cell 1
  have k14 := BS.out.cell 14
  simp at k0 k1 k14
  have hgm : g ≠ gm := fun e => HC.out.mp.ne BS.out e.symm
  have HK1 := Lib.hid (fun (W : World) (hf : Fr w1.heap.size [gm] w1 W) => (hf.cell (p := ⟨g, 1, none⟩) BS.out.lt (by simpa using hgm)).trans k1)
  have hlm : gm < w.heap.size := h.mp.lt
  clear h fa hw1 hg
  by_cases hk0 : s.kind < 1
  · have hr := rm_bad (s := s) (.inl hk0)
    rw [hr, if_neg (by decide)]
    clear hr
    go_enter Tryz.func76, Tryz.ntmps76
    go_upto_region 1 with fail
    rw [← HW.out, ← HG.out]
    go_wp2_with fail
    go_ret
    exact ⟨rfl, HC.out, FA.out.mono (by simp) (by simp)⟩
  by_cases hk5 : 5 < s.kind
  · have hr := rm_bad (s := s) (.inr hk5)
    rw [hr, if_neg (by decide)]
    clear hr
    go_enter Tryz.func76, Tryz.ntmps76
    go_upto_region 1 with fail
    rw [← HW.out, ← HG.out]
    go_wp2_with fail
    go_ret
    exact ⟨rfl, HC.out, FA.out.mono (by simp) (by simp)⟩
  have hk1 : 1 ≤ s.kind := by omega
  have hk6 : s.kind ≤ 5 := by omega
  rw [rm_ok ⟨hk1, hk6⟩, if_pos rfl]
  have HD := Lib.hid (fun (W : World) (A : Option Addr) (c : Nat) (hc : CT W gt gm T) (hr : Reads W W.heap.size 1 A 8 ((intsK 8).map (Value.int .i64))) => (by
    have := cdrop_any gt gm T hok s.nd.id A 8 c W.heap.size (intsK 8) W hc rfl (by omega) hr (Nat.le_refl _)
    rw [ofB_all] at this
    exact this : Calls Tryz.prog 103 #[.pointer (some ⟨gt, 0, none⟩), .int .i64 s.nd.id, .slice A 8 c] W (DropOut gt gm (dropQ (nodeQ s.nd.id) T) W)))
  obtain ⟨db, hdb⟩ : ∃ b, b = dropsB s := ⟨_, rfl⟩
  obtain ⟨TK, hTK⟩ : ∃ K, K = keptT s T := ⟨_, rfl⟩
  have HTK := Lib.hid hTK
  have HDB := Lib.hid hdb
  rw [← hTK]
  clear hTK hdb hk0 hk5
  obtain ⟨kd, hkd⟩ : ∃ k, k = s.kind := ⟨_, rfl⟩
  obtain ⟨rs, hrs⟩ : ∃ k, k = s.rs := ⟨_, rfl⟩
  have HKD := Lib.hid hkd
  have HRS := Lib.hid hrs
  rw [← hkd] at k0 hk1 hk6
  rw [← hrs] at k14
  clear hkd hrs
  cases db with
  | true =>
    have HT2 := Lib.hid (show TK = dropQ (nodeQ s.nd.id) T by rw [HTK.out]; unfold keptT; rw [if_pos HDB.out.symm])
    have hor : (kd = 1 ∧ rs = true) ∨ kd = 3 ∨ kd = 2 := by
      have := HDB.out
      unfold dropsB at this
      rw [← HKD.out, ← HRS.out] at this
      simpa using this.symm
    go_enter Tryz.func76, Tryz.ntmps76
    go_upto_region 1 with fail
    rw [← HW.out, ← HG.out]
    go_upto_region 5 with fail
    go_cut [33] (fun s33 wx => s33 = .bool true ∧ wx = w1)
    case first =>
      rcases hor with ⟨rfl, rfl⟩ | rfl | rfl
      · go_wp2_with fail
        go_meet
        exact ⟨rfl, rfl⟩
      · go_wp2_with fail
        go_meet
        exact ⟨rfl, rfl⟩
      · go_wp2_with fail
        go_meet
        exact ⟨rfl, rfl⟩
    case rest =>
      obtain ⟨rfl, hwc⟩ := hcut
      subst hwc
      go_upto_region 6 with fail
      have INV := Lib.hid ((Fr.refl wc.heap.size [gm] wc).drew)
      have INC := Lib.hid (show CT wc.drew gt gm T from ⟨HC.out.bk.drew, HC.out.mp.fr (Fr.refl wc.heap.size [] wc).drew HC.out.mp.lt (by simp)⟩)
      go_region_held3 (fun W => W.cell? ⟨g, 1, none⟩ = some (.int .i64 s.nd.id)) (exact HK1.out _ INV.out)
        ((first | (go_at_call 104; refine (rall_any _).mono ?_; rintro e wv ⟨Av, cv, rfl, hrv, fv⟩; have INV := Lib.hid (INV.out.trans (fv.mono (B' := _) (L' := [gm]) INV.out.size (by simp))); have INC := Lib.hid (INC.out.keep fv); have HRV := Lib.hid hrv; clear fv hrv) | (go_at_call 103; refine (HD.out _ _ _ INC.out HRV.out).mono ?_; rintro e wd ⟨rfl, hcd, fd⟩; have INV := Lib.hid (INV.out.trans (fd.mono (B' := _) (L' := [gm]) INV.out.size (by simp))); have INC2 := Lib.hid hcd; clear fd hcd)))
      all_goals
        go_wp2_with fail
        go_ret
        refine ⟨rfl, ?_, (FA.out.mono (by simp) (by simp)).trans (INV.out.mono FA.out.size (by simp))⟩
        rw [HT2.out]
        exact INC2.out
  | false =>
    have HT2 := Lib.hid (show TK = T by rw [HTK.out]; unfold keptT; rw [if_neg (by rw [← HDB.out]; simp)])
    have hno : ¬ ((kd = 1 ∧ rs = true) ∨ kd = 3 ∨ kd = 2) := by
      have := HDB.out
      unfold dropsB at this
      rw [← HKD.out, ← HRS.out] at this
      intro hc
      have h2 : ((decide (kd = 1) && rs) || (decide (kd = 3) || decide (kd = 2))) = true := by simpa using hc
      rw [← this] at h2
      cases h2
    have hkk : (kd = 1 ∧ rs = false) ∨ kd = 4 ∨ kd = 5 := by
      cases rs <;> simp at hno ⊢ <;> omega
    clear hno
    go_enter Tryz.func76, Tryz.ntmps76
    go_upto_region 1 with fail
    rw [← HW.out, ← HG.out]
    go_upto_region 5 with fail
    go_cut [33] (fun s33 wx => s33 = .bool false ∧ wx = w1)
    case first =>
      rcases hkk with ⟨rfl, rfl⟩ | rfl | rfl
      · go_wp2_with fail
        go_meet
        exact ⟨rfl, rfl⟩
      · go_wp2_with fail
        go_meet
        exact ⟨rfl, rfl⟩
      · go_wp2_with fail
        go_meet
        exact ⟨rfl, rfl⟩
    case rest =>
      obtain ⟨rfl, hwc⟩ := hcut
      subst hwc
      go_wp2_with fail
      go_ret
      exact ⟨rfl, by rw [HT2.out]; exact HC.out, FA.out.mono (by simp) (by simp)⟩
end Go.Proofs.YthfibggbipkmfaaGreat
namespace Go.Proofs.YthfibggbipkmfaaGreat
open Go.RowKit Go.Fb
set_option linter.unusedVariables false
/-- What is kept behind steps. -/
def kepS (T : Pk → CV) (s : Stp) : Pk → CV := if stpE s = 0 then keptT s T else T
def kepL (T : Pk → CV) (P : List Stp) : Pk → CV := P.foldl kepS T
theorem kepL_snoc (T : Pk → CV) (P : List Stp) (s : Stp) : kepL T (P ++ [s]) = kepS (kepL T P) s := by unfold kepL; rw [List.foldl_append]; rfl
theorem TOk.kepS {T : Pk → CV} (h : TOk T) (s : Stp) : TOk (kepS T s) := by
  unfold Go.Proofs.YthfibggbipkmfaaGreat.kepS
  split
  · exact h.kept s
  · exact h
theorem TOk.kepL : ∀ {P : List Stp} {T : Pk → CV}, TOk T → TOk (kepL T P)
  | [], _, h => h
  | s :: P, T, h => TOk.kepL (P := P) (h.kepS s)
/-- What a plan leaves. -/
def RmApOut (gt gm : Nat) (T : Pk → CV) (P : List Stp) (r : Int × Nat × List Nd) (w : World) (e : Ending) (w' : World) : Prop :=
  (r.1 ≠ 0 ∧ e = .returned (.tuple #[.slice none 0 0, .int .i64 (r.2.1 : Int), .int .i64 r.1]) ∧ CT w' gt gm T ∧ Fr w.heap.size [] w w') ∨
  (r.1 = 0 ∧ ∃ A c n M, e = .returned (.tuple #[.slice A n c, .int .i64 0, .int .i64 0]) ∧ Nmd w.heap.size w' A n c M ∧ fstN M = r.2.2 ∧ RightG r.2.2 ∧ CT w' gt gm (kepL T P) ∧ Fr w.heap.size [gm] w w')
set_option maxRecDepth 100000 in
set_option maxHeartbeats 4000000 in
theorem rmapply_any2 (gt gm : Nat) (T : Pk → CV) (hok : TOk T) (A A2 : Option Addr) (c c2 B B2 n n2 : Nat) (M : List Ndm) (S : List Stm) (w : World) (hct : CT w gt gm T) (h : Nds w B A n M) (hB : B ≤ w.heap.size) (hs : Small M) (hS : Sts w B2 A2 n2 S) (hB2 : B2 ≤ w.heap.size) (hss : SmallS S) (hn2 : n2 ≤ 1000000) (hBm : B2 ≤ gm) :
    Calls Tryz.prog 40 #[.pointer (some ⟨gt, 0, none⟩), .slice A n c, .slice A2 n2 c2] w (RmApOut gt gm T (fstS S) (applyN (fstN M) (fstS S)) w) := by
  obtain ⟨P, hP⟩ : ∃ P, P = fstS S := ⟨_, rfl⟩
  obtain ⟨r, hr⟩ : ∃ r, r = applyN (fstN M) (fstS S) := ⟨_, rfl⟩
  have HAP := Lib.hid (by rw [hr]; exact papply_any A A2 c c2 w.heap.size n n2 M S w (h.more hB) (Nat.le_refl _) hs (hS.more hB2) hss hn2 : Calls Tryz.prog 25 #[.slice A n c, .slice A2 n2 c2] w (ApOut r w))
  rw [← hr, ← hP]
  have HP := Lib.hid hP
  have HNU := Lib.hid hS.num
  have HST := Lib.hid hS
  have HCT := Lib.hid hct
  have HOK := Lib.hid hok
  have hlm := hct.mp.lt
  clear h hs hS hss hct hr hP hok
  go_enter Tryz.func40, Tryz.ntmps40
  go_wp2_with fail
  refine HAP.out.mono ?_
  rintro e w1 (⟨e1, rfl, f1⟩ | ⟨e1, A5, c5, n5, M5, rfl, hn5, hf5, hr5, f1⟩)
  · have E1 := Lib.hid e1
    have hcb := kd_ne e1
    have hcn : (r.1 != 0) = true := by simpa using e1
    have HC1 := Lib.hid (HCT.out.keep f1)
    have F1 := Lib.hid f1
    clear e1 f1 HAP
    go_wp2_with fail
    go_ret3
    exact .inl ⟨E1.out, rfl, HC1.out, F1.out⟩
  have HC1 := Lib.hid (HCT.out.keep f1)
  have F1 := Lib.hid f1
  have HN5 := Lib.hid hn5
  have HF5 := Lib.hid hf5
  have HR5 := Lib.hid hr5
  have E1 := Lib.hid e1
  have hs1 := f1.size
  have hlm1 : gm < w1.heap.size := by omega
  clear e1 f1 hn5 hf5 hr5 HAP HCT
  go_wp2_with fail
  go_loopg [13, 29] n2 (fun g s13 s29 wr => ∃ k : Nat, k ≤ n2 ∧ g = n2 - k ∧ s29 = .int .i64 k ∧ (s13 = undef ∨ ∃ a, s13 = .pointer a) ∧ RowKit.Hid (CT wr gt gm (kepL T (P.take k))) ∧ RowKit.Hid (Fr w1.heap.size [gm] w1 wr))
  case atStart => exact ⟨0, Nat.zero_le _, rfl, rfl, .inl rfl, HC1, Lib.hid (Fr.refl _ _ _)⟩
  case round =>
    clear HC1
    obtain ⟨k, hk, rfl, rfl, h13, C, F⟩ := hrel
    by_cases hkn : k < n2
    · have hki : (k : Int) < (n2 : Int) := by omega
      have hk0 : (0 : Int) ≤ (k : Int) := by omega
      obtain ⟨m, hx⟩ : ∃ m, S[k]? = some m := ⟨_, List.getElem?_eq_getElem (by rw [← HNU.out]; exact hkn)⟩
      have HSW := (HST.out.frw F1.out hB2 (by simp)).frw F.out (by omega) (by simp; omega)
      obtain ⟨b1, o1, rfl, hb1, hc1⟩ := HSW.get hx
      have hin := HSW.inn m (List.mem_of_getElem? hx)
      have HTK := Lib.hid (show kepL T (P.take (k + 1)) = kepS (kepL T (P.take k)) m.1 by
        have : P[k]? = some m.1 := by rw [HP.out]; simp [fstS, hx]
        rw [List.take_add_one, this]
        exact kepL_snoc _ _ _)
      obtain ⟨⟨kd, y, rs⟩, sf, sp⟩ := m
      simp only at hin HTK
      obtain ⟨⟨Af, cf, hf1, hf2⟩, ⟨Ap, cp, hp1, hp2⟩⟩ := hin
      simp only at hf1 hp1 hf2 hp2
      subst hf1
      subst hp1
      clear hf2 hp2
      obtain ⟨nf, hnf⟩ : ∃ z, z = y.fr.length := ⟨_, rfl⟩
      obtain ⟨np, hnp⟩ : ∃ z, z = y.pg.length := ⟨_, rfl⟩
      rw [← hnf, ← hnp] at hc1
      have p0 := hc1 0 (.int .i64 kd) rfl
      have p1 := hc1 1 (.int .i64 y.id) rfl
      have p2 := hc1 2 (.int .i64 y.kind) rfl
      have p3 := hc1 3 (.slice Af nf cf) rfl
      have p4 := hc1 4 (.slice Ap np cp) rfl
      have p5 := hc1 5 (.int .i64 y.par) rfl
      have p6 := hc1 6 (.int .i64 (y.rt 0)) rfl
      have p7 := hc1 7 (.int .i64 (y.rt 1)) rfl
      have p8 := hc1 8 (.int .i64 (y.rt 2)) rfl
      have p9 := hc1 9 (.int .i64 (y.rt 3)) rfl
      have p10 := hc1 10 (.int .i64 (y.rt 4)) rfl
      have p11 := hc1 11 (.int .i64 (y.rt 5)) rfl
      have p12 := hc1 12 (.int .i64 (y.rt 6)) rfl
      have p13 := hc1 13 (.int .i64 (y.rt 7)) rfl
      have p14 := hc1 14 (.bool rs) rfl
      simp only [Nat.add_zero] at p0
      clear hc1 hx HSW hnf hnp
      have fa := (Fr.refl wr.heap.size [] wr).alloc (Nat.le_refl _) (.cells (stA kd y rs (.slice Af nf cf) (.slice Ap np cp)) 110)
      have BX := Lib.hid (Blk.new wr 110 (stA kd y rs (.slice Af nf cf) (.slice Ap np cp)))
      have CA := C.out.keep fa
      have HFA := Lib.hid (F.out.trans (fa.mono (B' := w1.heap.size) (L' := [gm]) F.out.size (by simp)))
      have HSS := Lib.hid (rmstep_any gt gm (kepL T (P.take k)) (TOk.kepL HOK.out) ⟨kd, y, rs⟩ (.slice Af nf cf) (.slice Ap np cp) (wr.alloc (.cells (stA kd y rs (.slice Af nf cf) (.slice Ap np cp)) 110)) CA)
      clear fa CA hb1
      go_upto_region 9 with fail
      clear p0 p1 p2 p3 p4 p5 p6 p7 p8 p9 p10 p11 p12 p13 p14
      generalize wr.alloc (.cells (stA kd y rs (.slice Af nf cf) (.slice Ap np cp)) 110) = wa at *
      generalize wr.heap.size = gx at BX
      have q0 := BX.out.cell 0
      have q1 := BX.out.cell 1
      have q2 := BX.out.cell 2
      have q3 := BX.out.cell 3
      have q4 := BX.out.cell 4
      have q5 := BX.out.cell 5
      have q6 := BX.out.cell 6
      have q7 := BX.out.cell 7
      have q8 := BX.out.cell 8
      have q9 := BX.out.cell 9
      have q10 := BX.out.cell 10
      have q11 := BX.out.cell 11
      have q12 := BX.out.cell 12
      have q13 := BX.out.cell 13
      have q14 := BX.out.cell 14
      simp at q0 q1 q2 q3 q4 q5 q6 q7 q8 q9 q10 q11 q12 q13 q14
      go_wp2_with fail
      refine HSS.out.mono ?_
      rintro e w2 ⟨rfl, hc2, f2⟩
      have HC2 := Lib.hid (show CT w2 gt gm (kepL T (P.take (k + 1))) by rw [HTK.out]; exact hc2)
      have F2 := Lib.hid (HFA.out.trans (f2.mono (B' := w1.heap.size) (L' := [gm]) HFA.out.size (by simp)))
      clear hc2 f2 HSS HTK HFA
      go_wp2_with fail
      go_roundg (n2 - (k + 1))
      case measure => omega
      case rel => exact ⟨k + 1, by omega, rfl, by go_num, .inr ⟨_, rfl⟩, HC2, F2⟩
    · obtain rfl : n2 = k := by omega
      have hC := C.out
      rw [List.take_of_length_le (by rw [HP.out, HNU.out]; simp [fstS])] at hC
      have HC9 := Lib.hid hC
      clear hC
      go_wp2_with fail
      go_ret3
      exact .inr ⟨E1.out, A5, c5, n5, M5, rfl, HN5.out.frd F.out (by simp; omega), HF5.out, HR5.out, HC9.out, (F1.out.mono (by simp) (by simp)).trans (F.out.mono hs1 (by simp))⟩
end Go.Proofs.YthfibggbipkmfaaGreat
namespace Go.Proofs.YthfibggbipkmfaaGreat
open Go.RowKit Go.Fb
set_option linter.unusedVariables false
section
variable {P : Program} (w : World)
/-- append onto an owned row, the source nil, empty or not: the new value written out, and where it lies. -/
theorem run_app2 {t e size bytes : Nat} (T : SliceTy P t e size bytes) (ty : TypeId) (base : Nat) (v : Value) (n : Nat) (xs : List Value) (hown : w.ownsRow base e size v n xs)
    (B : Nat) (A : Option Addr) (m c : Nat) (news : List Value) (hr : Reads w B size A m news) (h1 : ∀ u ∈ news, u.oneCell' = true)
    (h63 : n + m ≤ 140737488355328) (hbytes : (n + m) * bytes ≤ 140737488355328) (hbase : base ≤ w.heap.size) :
    ∃ A' c' w', (Builtin.append_ #[t, t] ty #[v, .slice A m c]).run P w = .ok (.slice A' (n + m) c') w' ∧ w'.ownsRow base e size (.slice A' (n + m) c') (n + m) (xs ++ news) ∧ w.grownBy w' v.ownBlock ∧
      (Value.ownBlock (.slice A' (n + m) c') = v.ownBlock ∨ Value.ownBlock (.slice A' (n + m) c') = some w.heap.size) := by
  obtain ⟨i, z, hi, hz, hsize, hby, hzs⟩ := T.hi
  have hml : n + m ≤ maxLen := by unfold maxLen; omega
  have hcells : ∀ ad, A = some ad → ∀ j u, news[j]? = some u → w.cell? (ad.add j) = some u := by
    rintro ad rfl j u hu
    rcases Nat.eq_zero_or_pos m with h0 | h0
    · subst h0
      have hn : news = [] := List.eq_nil_of_length_eq_zero (by simpa using hr.1)
      subst hn
      simp at hu
    · obtain ⟨b, off, h, _, hc⟩ := hr.2 h0
      injection h with h
      subst h
      have : (⟨b, off, none⟩ : Addr).add j = ⟨b, off + j, none⟩ := by unfold Addr.add; split <;> simp_all
      rw [this]
      exact hc j u hu
  have key : ∃ v' w', (Builtin.append_ #[t, t] ty #[v, .slice A m c]).run P w = .ok v' w' ∧ w'.ownsRow base e size v' (n + m) (xs ++ news) ∧ w.grownBy w' v.ownBlock ∧ (v'.ownBlock = v.ownBlock ∨ v'.ownBlock = some w.heap.size) := by
    rcases A with _ | ad
    · have hm : m = 0 := by
        rcases Nat.eq_zero_or_pos m with h0 | h0
        · exact h0
        · obtain ⟨b, off, h, _⟩ := hr.2 h0
          cases h
      subst hm
      have hn : news = [] := List.eq_nil_of_length_eq_zero (by simpa using hr.1)
      subst hn
      exact ⟨v, w, run_append_of_nil w base t ty e i size T.ht hi v n xs hown c, by simpa using hown, ⟨rfl, rfl, rfl, Nat.le_refl _, fun _ _ _ => rfl⟩, .inl rfl⟩
    · obtain ⟨v', w', hrun, h2, h3, _, h5⟩ := run_append_own_at (P := P) w base t ty e i z size bytes T.ht hi hz hsize hby hzs T.pos v n xs hown ad m c news hr.1 (hcells ad rfl) h1 hml hbytes hbase
      exact ⟨v', w', hrun, h2, h3, h5⟩
  obtain ⟨v', w', hrun, h2, h3, h4⟩ := key
  obtain ⟨A', c', rfl, _⟩ := ownsRow_shape h2
  exact ⟨A', c', w', hrun, h2, h3, h4⟩

theorem wp_app2 {o : Oper} {a : Act} {K : Act → World → Prop} {Q : Exit → Act → World → Prop} (s x : Operand) {t e size bytes : Nat} (T : SliceTy P t e size bytes)
    (ho : o.op = .call { callee := .builtin .append, args := #[s, x], argTypes := #[t, t] })
    (base : Nat) (v : Value) (n : Nat) (xs : List Value) (hs : a.eval s = v) (hown : w.ownsRow base e size v n xs)
    (B : Nat) (A : Option Addr) (m c : Nat) (news : List Value) (hx : a.eval x = .slice A m c) (hr : Reads w B size A m news) (h1 : ∀ u ∈ news, u.oneCell' = true)
    (h63 : n + m ≤ 140737488355328) (hbytes : (n + m) * bytes ≤ 140737488355328) (hbase : base ≤ w.heap.size)
    (h : ∀ A' c' w', w'.ownsRow base e size (.slice A' (n + m) c') (n + m) (xs ++ news) → w.grownBy w' v.ownBlock →
      (Value.ownBlock (.slice A' (n + m) c') = v.ownBlock ∨ Value.ownBlock (.slice A' (n + m) c') = some w.heap.size) → K (a.put o.dst (.slice A' (n + m) c')) w') : o.wp P a w K Q := by
  obtain ⟨A', c', w', hrun, h2, h3, h4⟩ := run_app2 (P := P) w T o.type base v n xs hown B A m c news hr h1 h63 hbytes hbase
  unfold Oper.wp execOp
  simp only [ho, resolve, invoke, builtin, Sem.run_bind, Sem.run_pure, Result.andThen_ok, List.map_toArray, List.map_cons, List.map_nil, hs, hx, hrun]
  exact h A' c' w' h2 h3 h4

theorem wpList_app2 {ops : Array Oper} {rest : List Oper} {o : Oper} {a : Act} {Q : Exit → Act → World → Prop} (hgd : o.guard = none) (s x : Operand) {t e size bytes : Nat} (T : SliceTy P t e size bytes)
    (ho : o.op = .call { callee := .builtin .append, args := #[s, x], argTypes := #[t, t] })
    (base : Nat) (v : Value) (n : Nat) (xs : List Value) (hs : a.eval s = v) (hown : w.ownsRow base e size v n xs)
    (B : Nat) (A : Option Addr) (m c : Nat) (news : List Value) (hx : a.eval x = .slice A m c) (hr : Reads w B size A m news) (h1 : ∀ u ∈ news, u.oneCell' = true)
    (h63 : n + m ≤ 140737488355328) (hbytes : (n + m) * bytes ≤ 140737488355328) (hbase : base ≤ w.heap.size)
    (h : ∀ A' c' w', w'.ownsRow base e size (.slice A' (n + m) c') (n + m) (xs ++ news) → w.grownBy w' v.ownBlock →
      (Value.ownBlock (.slice A' (n + m) c') = v.ownBlock ∨ Value.ownBlock (.slice A' (n + m) c') = some w.heap.size) → wpList P ops Q rest (a.put o.dst (.slice A' (n + m) c')) w') : wpList P ops Q (o :: rest) a w :=
  wpList_plain hgd fun _ hK => wp_app2 w s x T ho base v n xs hs hown B A m c news hx hr h1 h63 hbytes hbase fun A' c' w' h2 h3 h4 => hK _ _ (h A' c' w' h2 h3 h4)
end

/-- A segment, with the two slices that it holds. -/
structure Sg where
  P : List Stm
  R : List (Nat → Int)
  sp : Value
  sr : Value
def cellsG (Z : List Sg) : List Value := Z.flatMap fun z => [z.sp, z.sr]
theorem cellsG_get : ∀ {Z : List Sg} {k : Nat} {z : Sg}, Z[k]? = some z → (cellsG Z)[k * 2]? = some z.sp ∧ (cellsG Z)[k * 2 + 1]? = some z.sr
  | [], k, z, h => by simp at h
  | y :: Z, 0, z, h => by simp at h; subst h; exact ⟨rfl, rfl⟩
  | y :: Z, k + 1, z, h => by
    rw [List.getElem?_cons_succ] at h
    obtain ⟨a, b⟩ := cellsG_get h
    have e : cellsG (y :: Z) = [y.sp, y.sr] ++ cellsG Z := rfl
    rw [e, show (k + 1) * 2 = k * 2 + 2 by omega]
    exact ⟨by rw [List.getElem?_append_right (by simp)]; simpa using a, by rw [List.getElem?_append_right (by simp)]; simpa using b⟩
structure SgIn (w : World) (B : Nat) (z : Sg) : Prop where
  p : ∃ A c, z.sp = .slice A z.P.length c ∧ Sts w B A z.P.length z.P
  r : ∃ A c, z.sr = .slice A z.R.length c ∧ Reads w B 3 A z.R.length (cellsR z.R)
/-- Segments that a slice reads. -/
structure Sgs (w : World) (B : Nat) (A : Option Addr) (n : Nat) (Z : List Sg) : Prop where
  num : n = Z.length
  rd : Reads w B 2 A n (cellsG Z)
  inn : ∀ z ∈ Z, SgIn w B z
theorem SgIn.frw {w w' : World} {B B' : Nat} {L : List Nat} {z : Sg} (h : SgIn w B z) (hf : Fr B' L w w') (hB : B ≤ B') (hL : ∀ k ∈ L, B ≤ k) : SgIn w' B z := by
  obtain ⟨⟨A, c, h1, h2⟩, ⟨A', c', h3, h4⟩⟩ := h
  exact ⟨⟨A, c, h1, h2.frw hf hB hL⟩, ⟨A', c', h3, h4.fr hf hB hL⟩⟩
theorem Sgs.frw {w w' : World} {B B' n : Nat} {A : Option Addr} {L : List Nat} {Z : List Sg} (h : Sgs w B A n Z) (hf : Fr B' L w w') (hB : B ≤ B') (hL : ∀ k ∈ L, B ≤ k) : Sgs w' B A n Z :=
  ⟨h.num, h.rd.fr hf hB hL, fun m hm => (h.inn m hm).frw hf hB hL⟩
theorem Sgs.get {w : World} {B n : Nat} {A : Option Addr} {Z : List Sg} (h : Sgs w B A n Z) {k : Nat} {z : Sg} (hk : Z[k]? = some z) :
    ∃ b off, A = some ⟨b, off, none⟩ ∧ b < B ∧ w.cell? ⟨b, off + k * 2, none⟩ = some z.sp ∧ w.cell? ⟨b, off + k * 2 + 1, none⟩ = some z.sr := by
  have hkn : k < n := by
    rw [h.num]
    exact (List.getElem?_eq_some_iff.1 hk).1
  obtain ⟨b, off, e, hb, hc⟩ := h.rd.2 (by omega)
  obtain ⟨h1, h2⟩ := cellsG_get hk
  exact ⟨b, off, e, hb, hc _ _ h1, by rw [Nat.add_assoc]; exact hc _ _ h2⟩
def SmallG (Z : List Sg) : Prop := ∀ z ∈ Z, SmallS z.P ∧ z.P.length ≤ 1000 ∧ z.R.length ≤ 200
/-- What segments have made so far: the graph, the table, the lines. -/
structure GS where
  L : List Nd
  T : Pk → CV
  out : List (Nat → Int)
/-- A plan, if there is one. -/
def planG (X : GS) (P : List Stp) : Int × GS := if P.length = 0 then (0, X) else ((applyN X.L P).1, ⟨(applyN X.L P).2.2, kepL X.T P, X.out⟩)
def recsG (X : GS) (R : List (Nat → Int)) : Int × GS :=
  if checkN X.L ≠ 0 then (10, X) else if R.all recR = false then (1, X) else (0, ⟨X.L, (flowD X.L R ⟨X.T, [], cnt0 X.L⟩).T, X.out ++ (flowD X.L R ⟨X.T, [], cnt0 X.L⟩).out⟩)
def segG (X : GS) (P : List Stp) (R : List (Nat → Int)) : Int × GS := if (planG X P).1 ≠ 0 then planG X P else recsG (planG X P).2 R
/-- Segments: the error's number, and what they make. -/
def segsG : List (List Stp × List (Nat → Int)) → GS → Int × GS
  | [], X => (0, X)
  | z :: Z, X => if (segG X z.1 z.2).1 ≠ 0 then segG X z.1 z.2 else segsG Z (segG X z.1 z.2).2
def bare (Z : List Sg) : List (List Stp × List (Nat → Int)) := Z.map fun z => (fstS z.P, z.R)
theorem recsG_fewG {X : GS} {R : List (Nat → Int)} (h : TOk X.T) : (recsG X R).2.out.length ≤ X.out.length + R.length * 26507215 := by
  unfold recsG
  split
  · exact Nat.le_add_right _ _
  · rename_i h1
    split
    · exact Nat.le_add_right _ _
    · rename_i h2
      have := flow_few (checkN_zero.1 (Decidable.not_not.1 h1)) (l := R) (by simpa using h2) (S := ⟨X.T, [], cnt0 X.L⟩) h
      simp only [List.length_append, List.length_nil] at this ⊢
      omega
theorem recsG_few {X : GS} {R : List (Nat → Int)} (h : TOk X.T) (hR : R.length ≤ 200) : (recsG X R).2.out.length ≤ X.out.length + 5301443000 := by
  have h1 := recsG_fewG (R := R) h
  have h2 := Nat.mul_le_mul_right 26507215 hR
  omega
theorem own_apart {w : World} {b1 b2 e1 e2 s1 s2 n1 n2 : Nat} {v1 v2 : Value} {xs1 xs2 : List Value} (h1 : w.ownsRow b1 e1 s1 v1 n1 xs1) (h2 : w.ownsRow b2 e2 s2 v2 n2 xs2) (hne : e1 ≠ e2) : ∀ g, v1.ownBlock = some g → v2.ownBlock ≠ some g := by
  intro g hg1 hg2
  rcases h1.2 with ⟨rfl, _⟩ | ⟨g1, cap1, cur1, rfl, _, hh1, _⟩
  · cases hg1
  · rcases h2.2 with ⟨rfl, _⟩ | ⟨g2, cap2, cur2, rfl, _, hh2, _⟩
    · cases hg2
    · have a : g1 = g := by simpa [Value.ownBlock] using hg1
      have b : g2 = g := by simpa [Value.ownBlock] using hg2
      subst a
      subst b
      rw [hh1] at hh2
      injection hh2 with hh2
      injection hh2 with _ ht
      exact hne ht
theorem NmO.frOff {base : Nat} {q0 q : Option Nat} {w w' : World} {m : Ndm} (h : NmO base q0 w m) (hf : Fr w.heap.size q.toList w w') (p1 : Off q m.2.1) (p2 : Off q m.2.2) : NmO base q0 w' m := by
  obtain ⟨⟨⟨A, c, h1, h2⟩, ⟨A', c', h3, h4⟩⟩, o1, o2, f1, f2, th⟩ := h
  have key : ∀ (v : Value) (B : Option Addr) (n k : Nat), v = .slice B n k → Off q v → 0 < n → ∀ ad, B = some ad → ad.block ∉ q.toList := by
    intro v B n k hv ho hn ad ha hm
    have := ho B n k hv hn ad ha
    cases q with
    | none => simp at hm
    | some g => simp at hm; exact this (by rw [hm])
  exact ⟨⟨⟨A, c, h1, (h2.frL hf (Nat.le_refl _) (key _ _ _ _ h1 p1)).more hf.size⟩, ⟨A', c', h3, (h4.frL hf (Nat.le_refl _) (key _ _ _ _ h3 p2)).more hf.size⟩⟩, o1, o2, f1, f2, th.frL hf (fun A n c hv hn => key _ A n c hv p2 hn)⟩
theorem Nmd.frOff {base : Nat} {w w' : World} {A : Option Addr} {n c : Nat} {M : List Ndm} {q : Option Nat} (h : Nmd base w A n c M) (hf : Fr w.heap.size q.toList w w') (hq : ∀ g, (Value.slice A n c).ownBlock = some g → q ≠ some g) (om : ∀ m ∈ M, Off q m.2.1 ∧ Off q m.2.2) : Nmd base w' A n c M :=
  ⟨h.num, ownsRow_fr h.own hf (fun k hk => ⟨(h.own.lt k hk).2, fun hm => hq k hk (by simpa using hm)⟩), fun m hm => (h.inn m hm).frOff hf (om m hm).1 (om m hm).2⟩
theorem nmd_off {base g : Nat} {w : World} {A : Option Addr} {n c : Nat} {M : List Ndm} (h : Nmd base w A n c M) (hg : w.heap.size ≤ g) : ∀ m ∈ M, Off (some g) m.2.1 ∧ Off (some g) m.2.2 := by
  intro m hm
  obtain ⟨⟨⟨A1, c1, h1, h2⟩, ⟨A2, c2, h3, h4⟩⟩, _⟩ := h.inn m hm
  rw [h1, h3]
  exact ⟨reads_off h2 hg, reads_off h4 hg⟩
theorem results_tmp4 {fn : Func} {t u v x : Tmp} (h : fn.results = #[.tmp t, .tmp u, .tmp v, .tmp x]) (tmps : Array Value) (P : Program) (w : World) :
    (results fn tmps).run P w = .ok (.tuple #[tmps.getD t undef, tmps.getD u undef, tmps.getD v undef, tmps.getD x undef]) w := by
  simp [results, h]
def SegsOut (r : Int × GS) (w : World) (e : Ending) (w' : World) : Prop :=
  (r.1 ≠ 0 ∧ e = .returned (.tuple #[.slice none 0 0, .slice none 0 0, .pointer none, .int .i64 r.1]) ∧ Fr w.heap.size [] w w') ∨
  (r.1 = 0 ∧ ∃ Ao no co A' n' c' M' gt gm, e = .returned (.tuple #[.slice Ao no co, .slice A' n' c', .pointer (some ⟨gt, 0, none⟩), .int .i64 0]) ∧ w'.ownsRow w.heap.size 44 5 (.slice Ao no co) no (cellsLn r.2.out) ∧ Nds w' w'.heap.size A' n' M' ∧ fstN M' = r.2.L ∧ Small M' ∧ CT w' gt gm r.2.T ∧ TOk r.2.T ∧ w.heap.size ≤ gt ∧ w.heap.size ≤ gm ∧ Fr w.heap.size [] w w')
theorem segsG_err {z : Sg} {Z : List Sg} {X : GS} (h : (segG X (fstS z.P) z.R).1 ≠ 0) : segsG (bare (z :: Z)) X = segG X (fstS z.P) z.R := by
  show segsG ((fstS z.P, z.R) :: bare Z) X = _
  unfold segsG
  rw [if_pos h]
theorem segsG_ok {z : Sg} {Z : List Sg} {X : GS} (h : (segG X (fstS z.P) z.R).1 = 0) : segsG (bare (z :: Z)) X = segsG (bare Z) (segG X (fstS z.P) z.R).2 := by
  show segsG ((fstS z.P, z.R) :: bare Z) X = _
  conv => lhs; unfold segsG
  rw [if_neg (fun c => c h)]
set_option maxRecDepth 100000 in
set_option maxHeartbeats 16000000 in
theorem segs_any (A Az : Option Addr) (c cz B n nz : Nat) (M : List Ndm) (Z : List Sg) (w : World) (h : Nds w B A n M) (hB : B ≤ w.heap.size) (hs : Small M) (hn : n ≤ 20) (hZ : Sgs w B Az nz Z) (hsg : SmallG Z) (hz5 : nz ≤ 5) :
    Calls Tryz.prog 18 #[.slice A n c, .slice Az nz cz] w (SegsOut (segsG (bare Z) ⟨normL (fstN M), fun _ => c0, []⟩) w) := by
  obtain ⟨X0, hX0⟩ : ∃ X0 : GS, X0 = ⟨normL (fstN M), fun _ => c0, []⟩ := ⟨_, rfl⟩
  obtain ⟨r, hr⟩ : ∃ r, r = segsG (bare Z) X0 := ⟨_, rfl⟩
  rw [← hX0, ← hr]
  have HNW := Lib.hid (cnew_any none 0 0 w.heap.size [] w rfl (by omega) Reads.none_ (Nat.le_refl _))
  have HNM := Lib.hid (fun (wx : World) (hx : Fr w.heap.size [] w wx) => (norm_any A c B n M wx (h.frw hx hB (by simp)) (Nat.le_trans hB hx.size) hs hn : Calls Tryz.prog 39 #[.slice A n c] wx (NormOut (fstN M) wx)))
  have HZS := Lib.hid (fun (wx : World) (hx : Fr w.heap.size [] w wx) => (hZ.frw hx hB (by simp) : Sgs wx B Az nz Z))
  have HSG := Lib.hid hsg
  have HSM := Lib.hid hs
  have HNZ := Lib.hid hZ.num
  have HR := Lib.hid hr
  have HX0 := Lib.hid (show X0.L = normL (fstN M) ∧ X0.T = (fun _ => c0) ∧ X0.out = [] by rw [hX0]; exact ⟨rfl, rfl, rfl⟩)
  clear h hs hZ hsg hr hX0
  go_enter Tryz.func18, Tryz.ntmps18
  go_wp2_with fail
  refine HNW.out.mono ?_
  rintro e w1 (⟨hc, _⟩ | ⟨_, rfl, hct, f1⟩)
  · simp at hc
  have HCT1 := Lib.hid hct
  have F1 := Lib.hid f1
  obtain ⟨gt, hgt⟩ : ∃ g, g = w.heap.size + 1 := ⟨_, rfl⟩
  obtain ⟨gm, hgm⟩ : ∃ g, g = w.heap.size := ⟨_, rfl⟩
  rw [← hgt, ← hgm] at HCT1
  rw [← hgt]
  have hgt1 : gt < w1.heap.size := HCT1.out.bk.lt
  have hgm1 : gm < w1.heap.size := HCT1.out.mp.lt
  have HN1 := Lib.hid (HNM.out w1 f1)
  have hwgm : w.heap.size ≤ gm := by omega
  have hwgt : w.heap.size ≤ gt := by omega
  clear hct f1 HNW HNM hgt hgm
  go_wp2_with fail
  refine HN1.out.mono ?_
  rintro e w2 ⟨A1, c1, n1, M1, hn1, rfl, hown, hnmi, hfst, f2⟩
  have HM1 := Lib.hid (Nmd.mk hn1 hown hnmi)
  have HF1 := Lib.hid (hfst.trans HX0.out.1.symm)
  have HSM1 := Lib.hid (small_norm HSM.out hfst)
  have F2 := Lib.hid (F1.out.trans (f2.mono (B' := w.heap.size) (L' := []) F1.out.size (by simp)))
  have HCT2 := Lib.hid (HCT1.out.keep f2)
  have h12 : w1.heap.size ≤ w2.heap.size := f2.size
  clear hn1 hown hnmi hfst f2 HN1 HCT1 F1 HSM
  go_wp2_with fail
  go_loopg [0, 10, 12, 26] nz (fun g s0 s10 s12 s26 wr => ∃ (k : Nat) (X : GS) (b : Nat) (Al : Option Addr) (nl cl : Nat) (Ml : List Ndm) (Ao : Option Addr) (no co : Nat), k ≤ nz ∧ g = nz - k ∧ s0 = .slice Al nl cl ∧ s10 = .slice Ao no co ∧ (s12 = undef ∨ ∃ a, s12 = .pointer a) ∧ s26 = .int .i64 k ∧ RowKit.Hid (r = segsG (bare (Z.drop k)) X ∧ TOk X.T ∧ X.out.length ≤ k * 5301443000) ∧ RowKit.Hid (gm < b ∧ Nmd b wr Al nl cl Ml ∧ fstN Ml = X.L ∧ Small Ml) ∧ RowKit.Hid (∀ m ∈ Ml, Off (Value.slice Ao no co).ownBlock m.2.1 ∧ Off (Value.slice Ao no co).ownBlock m.2.2) ∧ RowKit.Hid (CT wr gt gm X.T) ∧ RowKit.Hid (wr.ownsRow w2.heap.size 44 5 (.slice Ao no co) no (cellsLn X.out)) ∧ RowKit.Hid (Fr w.heap.size [] w wr ∧ w2.heap.size ≤ wr.heap.size))
  case atStart => exact ⟨0, X0, w1.heap.size, A1, n1, c1, M1, none, 0, 0, Nat.zero_le _, rfl, rfl, rfl, .inl rfl, rfl, Lib.hid ⟨HR.out, by rw [HX0.out.2.1]; exact TOk.zero, by rw [HX0.out.2.2]; exact Nat.zero_le _⟩, Lib.hid ⟨hgm1, HM1.out, HF1.out, HSM1.out⟩, Lib.hid (fun m _ => ⟨off_none _, off_none _⟩), by rw [HX0.out.2.1]; exact HCT2, by rw [HX0.out.2.2]; exact Lib.hid (World.ownsRow_nil _ _ _ _), Lib.hid ⟨F2.out, Nat.le_refl _⟩⟩
  case round =>
    clear HM1 HF1 HSM1 HCT2 F2 HR HX0
    obtain ⟨k, X, b, Al, nl, cl, Ml, Ao, no, co, hk, rfl, rfl, rfl, h12', rfl, HX, HM, HOFF, HCT, HO, HF⟩ := hrel
    by_cases hkn : k < nz
    · have hki : (k : Int) < (nz : Int) := by omega
      have hk0 : (0 : Int) ≤ (k : Int) := by omega
      obtain ⟨z, hz⟩ : ∃ z, Z[k]? = some z := ⟨_, List.getElem?_eq_getElem (by rw [← HNZ.out]; exact hkn)⟩
      have hzs := HSG.out z (List.mem_of_getElem? hz)
      have HSW := HZS.out wr HF.out.1
      obtain ⟨bz, oz, rfl, hbz, p0, p1⟩ := HSW.get hz
      have hzi := HSW.inn z (List.mem_of_getElem? hz)
      have hdr : Z.drop k = z :: Z.drop (k + 1) := by
        obtain ⟨hlt, hg⟩ := List.getElem?_eq_some_iff.1 hz
        rw [List.drop_eq_getElem_cons hlt, hg]
      rw [hdr] at HX
      clear hdr hz HSW
      obtain ⟨P, R, sp, sr⟩ := z
      obtain ⟨⟨Ap, cp, hsp, hP⟩, ⟨Ar, cr, hsr, hR⟩⟩ := hzi
      simp only at hsp hsr hP hR p0 p1 hzs
      subst hsp
      subst hsr
      obtain ⟨hz1, hz2, hz3⟩ := hzs
      have HZ1 := Lib.hid hz1
      obtain ⟨np, hnp⟩ : ∃ m, m = P.length := ⟨_, rfl⟩
      obtain ⟨nr, hnr⟩ : ∃ m, m = R.length := ⟨_, rfl⟩
      rw [← hnp] at hP p0 hz2 HX
      rw [← hnr] at hR p1 hz3 HX
      have HNP := Lib.hid hnp
      have HNR := Lib.hid hnr
      have hBr : B ≤ wr.heap.size := Nat.le_trans hB HF.out.1.size
      have fa := (Fr.refl wr.heap.size [] wr).alloc (Nat.le_refl _) (.cells #[.slice Ap np cp, .slice Ar nr cr] 28)
      have BX := Lib.hid (Blk.new wr 28 #[.slice Ap np cp, .slice Ar nr cr])
      have HPa := Lib.hid (hP.frw fa hBr (by simp))
      have HRa := Lib.hid (hR.fr fa hBr (by simp))
      have HMa := Lib.hid (And.intro HM.out.1 (And.intro (HM.out.2.1.frd fa (by simp)) HM.out.2.2))
      have HCTa := Lib.hid (HCT.out.keep fa)
      have HOa := Lib.hid (ownsRow_fr HO.out fa (fun q hq => ⟨(HO.out.lt q hq).2, by simp⟩))
      have HFa := Lib.hid (And.intro (HF.out.1.trans (fa.mono (B' := w.heap.size) (L' := []) HF.out.1.size (by simp))) (Nat.le_trans HF.out.2 fa.size))
      obtain ⟨gx, hgx⟩ : ∃ g, g = wr.heap.size := ⟨_, rfl⟩
      have hgx2 : w2.heap.size ≤ gx := by have := HF.out.2; omega
      rw [← hgx] at BX
      clear fa hz1 hP hR hnp hnr HM HCT HO HF
      go_upto_region 7 with fail
      rw [← hgx]
      clear p0 p1 hgx
      generalize wr.alloc (.cells #[.slice Ap np cp, .slice Ar nr cr] 28) = wa at *
      have x0 := BX.out.cell 0
      have x1 := BX.out.cell 1
      simp at x0 x1
      have hwa : w2.heap.size ≤ wa.heap.size := HFa.out.2
      rcases Nat.eq_zero_or_pos np with hp | hp
      case' inl =>
        have hle : (np : Int) ≤ 0 := by omega
        go_upto_region 12 with fail
        have HX2 := Lib.hid (show planG X (fstS P) = (0, X) by unfold planG; rw [if_pos (by unfold fstS; rw [List.length_map, ← HNP.out]; exact hp)])
        have HTO := Lib.hid HX.out.2.1
        have HOE := Lib.hid (show X.out.length ≤ k * 5301443000 from HX.out.2.2)
        have HOEQ := Lib.hid (show X.out = X.out from rfl)
        have HRS := Lib.hid (HX.out.1)
        obtain ⟨X2, hX2⟩ : ∃ X2, X2 = X := ⟨_, rfl⟩
        have HX2 := Lib.hid (show planG X (fstS P) = (0, X2) by rw [hX2]; exact HX2.out)
        rw [← hX2] at HMa HCTa HTO HOa HOE
        clear HX hX2 HOEQ
        have HMb := HMa
        have HCTb := HCTa
        have HOb := HOa
        have HFb := HFa
        have BXb := BX
        have HRb := HRa
        have HOFb := HOFF
        clear HMa HCTa HOa HFa BX HRa x0 HOFF
        generalize Al = Al2 at *
        generalize nl = nl2 at *
        generalize cl = cl2 at *
        generalize Ml = Ml2 at *
        generalize b = b2 at *
        generalize wa = w5 at *
      case' inr =>
        have hlt : (0 : Int) < (np : Int) := by omega
        have HAP := Lib.hid (rmapply_any2 gt gm X.T HX.out.2.1 Al Ap cl cp wa.heap.size B nl np Ml P wa HCTa.out (HMa.out.2.1.nds (Fr.refl _ [] _) (by simp)) (Nat.le_refl _) HMa.out.2.2.2 HPa.out (by omega) HZ1.out (by omega) (by omega))
        rw [HMa.out.2.2.1] at HAP
        have hpl : (fstS P).length ≠ 0 := by unfold fstS; rw [List.length_map, ← HNP.out]; omega
        have HPG := Lib.hid (show planG X (fstS P) = ((applyN X.L (fstS P)).1, ⟨(applyN X.L (fstS P)).2.2, kepL X.T (fstS P), X.out⟩) by unfold planG; rw [if_neg hpl])
        obtain ⟨ap, hap⟩ : ∃ a, a = applyN X.L (fstS P) := ⟨_, rfl⟩
        rw [← hap] at HAP HPG
        obtain ⟨r1, r2, r3⟩ := ap
        unfold RmApOut at HAP
        simp only at HAP HPG
        clear hap hpl
        go_wp2_with fail
        refine HAP.out.mono ?_
        rintro e w5 (⟨hr1, rfl, hct, f5⟩ | ⟨hr1, Al2, cl2, nl2, Ml2, rfl, hnm, hfm, hrg, hct, f5⟩)
        · have HR1 := Lib.hid hr1
          have FF := Lib.hid (HFa.out.1.trans (f5.mono (B' := w.heap.size) (L' := []) HFa.out.1.size (by simp)))
          clear hct f5 HAP
          go_wp2_with fail
          (try simp only [Exit.inBlock, Exit.then])
          refine bodyPost_ret (results_tmp4 rfl _ _ _) rfl ?_
          have hsg : segG X (fstS P) R = (r1, ⟨r3, kepL X.T (fstS P), X.out⟩) := by
            unfold segG
            rw [HPG.out]
            simp only
            rw [if_pos HR1.out]
          have hrr : r = segG X (fstS P) R := HX.out.1.trans (segsG_err (z := ⟨P, R, _, _⟩) (by show (segG X (fstS P) R).1 ≠ 0; rw [hsg]; exact HR1.out))
          rw [hsg] at hrr
          rw [hrr]
          exact .inl ⟨HR1.out, rfl, FF.out⟩
        subst hr1
        obtain ⟨X2, hX2⟩ : ∃ X2 : GS, X2 = ⟨r3, kepL X.T (fstS P), X.out⟩ := ⟨_, rfl⟩
        have HX2 := Lib.hid (show planG X (fstS P) = (0, X2) by rw [hX2]; exact HPG.out)
        have e1 : X2.L = r3 := by rw [hX2]
        have e2 : X2.T = kepL X.T (fstS P) := by rw [hX2]
        have e3 : X2.out = X.out := by rw [hX2]
        have HTO := Lib.hid (show TOk X2.T by rw [e2]; exact TOk.kepL HX.out.2.1)
        have HOE := Lib.hid (show X2.out.length ≤ k * 5301443000 by rw [e3]; exact HX.out.2.2)
        have HRS := Lib.hid HX.out.1
        have hlt5 : wa.heap.size ≤ w5.heap.size := f5.size
        have HMb := Lib.hid (show gm < wa.heap.size ∧ Nmd wa.heap.size w5 Al2 nl2 cl2 Ml2 ∧ fstN Ml2 = X2.L ∧ Small Ml2 from ⟨by omega, hnm, by rw [e1]; exact hfm, small_right (by rw [hfm]; exact hrg)⟩)
        have HCTb := Lib.hid (show CT w5 gt gm X2.T by rw [e2]; exact hct)
        have HOb := Lib.hid (show w5.ownsRow w2.heap.size 44 5 (.slice Ao no co) no (cellsLn X2.out) by rw [e3]; exact ownsRow_fr HOa.out f5 (fun q hq => ⟨(HOa.out.lt q hq).2, by have := (HOa.out.lt q hq).1; simp; omega⟩))
        have HFb := Lib.hid (And.intro (HFa.out.1.trans (f5.mono (B' := w.heap.size) (L' := []) HFa.out.1.size (by simp; omega))) (Nat.le_trans HFa.out.2 f5.size))
        have BXb := Lib.hid (BX.out.fr f5 BX.out.lt (by simp; omega))
        have HOFb := Lib.hid (show ∀ m ∈ Ml2, Off (Value.slice Ao no co).ownBlock m.2.1 ∧ Off (Value.slice Ao no co).ownBlock m.2.2 from fun m hm => by
          obtain ⟨_, _, _, g1, g2, _⟩ := hnm.inn m hm
          cases hq : (Value.slice Ao no co).ownBlock with
          | none => exact ⟨off_none _, off_none _⟩
          | some g => exact ⟨fresh_off g1 (HOa.out.lt g hq).2, fresh_off g2 (HOa.out.lt g hq).2⟩)
        have HRb := Lib.hid (HRa.out.fr f5 (by omega) (by simp; omega))
        clear hnm hfm hrg hct f5 HAP HPG HX e1 e2 e3 hX2 HMa HCTa HOa HFa BX HRa x0 x1 HOFF
        generalize wa.heap.size = b2 at *
        have x1 := BXb.out.cell 1
        simp at x1
        go_upto_region 12 with fail
      all_goals
        obtain ⟨hgmb, hnm, hfm, hsm⟩ := HMb.out
        have HSEG := Lib.hid (show segG X (fstS P) R = recsG X2 R by unfold segG; rw [HX2.out]; simp)
        have HND := Lib.hid (hnm.nds (Fr.refl _ [] _) (by simp) : Nds w5 w5.heap.size Al2 nl2 Ml2)
        have HNM5 := Lib.hid hnm
        have HFM := Lib.hid hfm
        have HSM5 := Lib.hid hsm
        have hsz5 : w2.heap.size ≤ w5.heap.size := HFb.out.2
        have hsw5 : w.heap.size ≤ w5.heap.size := HFb.out.1.size
        clear hnm hfm hsm HMb
        by_cases hck : checkN X2.L = 0
        · have HRG := Lib.hid (checkN_zero.1 hck)
          have HCK := Lib.hid hck
          have HRU := Lib.hid (drunD_any gt gm X2.T Al2 Ar cl2 cr w5.heap.size B nl2 nr Ml2 R w5 HND.out (Nat.le_refl _) HSM5.out (by rw [HFM.out]; exact HRG.out) HNR.out (by omega) HRb.out HCTb.out (by omega) (by omega) HTO.out (fun hl => by
            rw [HFM.out]
            have h1 := flow_few HRG.out hl (S := ⟨X2.T, [], cnt0 X2.L⟩) HTO.out
            have h2 := HNR.out
            simp only [List.length_nil] at h1
            omega))
          rw [HFM.out] at HRU
          unfold DRunD at HRU
          clear hck HND
          go_wp2_with fail
          refine HRU.out.mono ?_
          rintro e w6 (⟨hl, rfl, f6⟩ | ⟨hl, A6, n6, c6, rfl, how, hct, f6⟩)
          · have HL := Lib.hid hl
            have FF := Lib.hid (HFb.out.1.trans (f6.mono (B' := w.heap.size) (L' := []) hsw5 (by simp)))
            clear hl f6 HRU
            go_wp2_with fail
            (try simp only [Exit.inBlock, Exit.then])
            refine bodyPost_ret (results_tmp4 rfl _ _ _) rfl ?_
            have hsg : segG X (fstS P) R = (1, X2) := by
              rw [HSEG.out]
              unfold recsG
              rw [if_neg (fun h => h HCK.out), if_pos HL.out]
            have hrr : r = segG X (fstS P) R := HRS.out.trans (segsG_err (z := ⟨P, R, _, _⟩) (by show (segG X (fstS P) R).1 ≠ 0; rw [hsg]; simp))
            rw [hsg] at hrr
            rw [hrr]
            exact .inl ⟨by simp, rfl, FF.out⟩
          · obtain ⟨X3, hX3⟩ : ∃ X3 : GS, X3 = ⟨X2.L, (flowD X2.L R ⟨X2.T, [], cnt0 X2.L⟩).T, X2.out ++ (flowD X2.L R ⟨X2.T, [], cnt0 X2.L⟩).out⟩ := ⟨_, rfl⟩
            have hsg : recsG X2 R = (0, X3) := by
              unfold recsG
              rw [if_neg (fun h => h HCK.out), if_neg (by rw [hl]; decide), hX3]
            have HRS3 := Lib.hid (show r = segsG (bare (Z.drop (k + 1))) X3 by
              have h1 : (segG X (fstS P) R).1 = 0 := by rw [HSEG.out, hsg]
              have h2 := HRS.out.trans (segsG_ok (z := ⟨P, R, _, _⟩) h1)
              rw [h2]
              show segsG _ (segG X (fstS P) R).2 = _
              rw [HSEG.out, hsg])
            have HX3 := Lib.hid (show TOk X3.T ∧ X3.out.length ≤ (k + 1) * 5301443000 by
              constructor
              · rw [hX3]; exact flow_ok HRG.out hl HTO.out
              · have h1 := recsG_few (X := X2) (R := R) HTO.out (by rw [← HNR.out]; exact hz3)
                rw [hsg] at h1
                have h2 := HOE.out
                simp only at h1
                omega)
            have hle : X3.out = X2.out ++ (flowD X2.L R ⟨X2.T, [], cnt0 X2.L⟩).out := by rw [hX3]
            have HCT3 := Lib.hid (show CT w6 gt gm X3.T by rw [hX3]; exact hct)
            have HL3 := Lib.hid (show X3.L = X2.L by rw [hX3])
            obtain ⟨o6, ho6⟩ : ∃ o, o = (flowD X2.L R ⟨X2.T, [], cnt0 X2.L⟩).out := ⟨_, rfl⟩
            rw [← ho6] at how hle
            have HRD6 := Lib.hid (Reads.of_own how)
            have HLE := Lib.hid hle
            have HO6 := Lib.hid (ownsRow_fr HOb.out f6 (fun q hq => ⟨(HOb.out.lt q hq).2, by have := (HOb.out.lt q hq).1; simp; omega⟩))
            have HNM6 := Lib.hid (HNM5.out.frd f6 (by simp; omega))
            have HF6 := Lib.hid (And.intro (HFb.out.1.trans (f6.mono (B' := w.heap.size) (L' := []) hsw5 (by simp; omega))) (Nat.le_trans hsz5 f6.size))
            have hno : no = X2.out.length := by
              have h1 := HOb.out.1
              rw [cellsLn_length] at h1
              omega
            have hn6 : n6 = o6.length := by
              have h1 := how.1
              rw [cellsLn_length] at h1
              omega
            have hno2 : no + n6 ≤ 27000000000 := by
              have h1 := HX3.out.2
              rw [hle, List.length_append, ← hno, ← hn6] at h1
              have h2 : (k + 1) * 5301443000 ≤ 5 * 5301443000 := Nat.mul_le_mul_right _ (by omega)
              omega
            have HNO := Lib.hid hno
            have HN6 := Lib.hid hn6
            clear hX3 hsg how hct f6 hl HRU HSEG HX2 hle ho6 hno hn6 HCTb HOb HFb HNM5 BXb HRb x1 HTO HOE HRS
            have hown := HO6.out
            have hrm := HRD6.out
            have hsz6 : w2.heap.size ≤ w6.heap.size := HF6.out.2
            go_wp2_with (at_builtin; refine wpList_app2 _ rfl (.tmp 58) (.tmp 59) lineTy rfl w2.heap.size (.slice Ao no co) no _ rfl hown w6.heap.size A6 n6 c6 (cellsLn o6) rfl hrm lnC_one (by omega) (by omega) hsz6 ?_; intro A7 c7 w7 hown7 hg7 hat7)
            have f7 := (Fr.refl w6.heap.size (Value.slice Ao no co).ownBlock.toList w6).grown hg7 (Nat.le_refl _) (fun k hk => .inr (by simp [hk]))
            have HNM7 := Lib.hid (HNM6.out.frOff f7 (fun g hg => own_apart HNM6.out.own hown (by decide) g hg) HOFb.out)
            have HOF7 := Lib.hid (show ∀ m ∈ Ml2, Off (Value.slice A7 (no + n6) c7).ownBlock m.2.1 ∧ Off (Value.slice A7 (no + n6) c7).ownBlock m.2.2 by
              rcases hat7 with e | e
              · rw [e]; exact HOFb.out
              · rw [e]; exact nmd_off HNM6.out (Nat.le_refl _))
            have hkeep : ∀ q, q < w2.heap.size → q ∉ (Value.slice Ao no co).ownBlock.toList := fun q hq hm => by
              have := (hown.lt q (by simpa using hm)).1
              omega
            have HCT7 := Lib.hid (HCT3.out.fr f7 HCT3.out.bk.lt (hkeep gt (by omega)) HCT3.out.mp.lt (hkeep gm (by omega)))
            have HO7 := Lib.hid (show w7.ownsRow w2.heap.size 44 5 (.slice A7 (no + n6) c7) (no + n6) (cellsLn X3.out) by rw [HLE.out, cellsLn_app]; exact hown7)
            have hs7 : w6.heap.size ≤ w7.heap.size := f7.size
            have HF7 := Lib.hid (And.intro (HF6.out.1.trans (f7.mono (B' := w.heap.size) (L' := []) HF6.out.1.size (fun q hq hlt => by
              have := (hown.lt q (by simpa using hq)).1
              omega))) (show w2.heap.size ≤ w7.heap.size by omega))
            have HM7 := Lib.hid (show gm < b2 ∧ Nmd b2 w7 Al2 nl2 cl2 Ml2 ∧ fstN Ml2 = X3.L ∧ Small Ml2 from ⟨hgmb, HNM7.out, by rw [HL3.out]; exact HFM.out, HSM5.out⟩)
            have HX7 := Lib.hid (And.intro HRS3.out HX3.out)
            clear hown7 hg7 hat7 f7 hown hrm hkeep
            go_wp2_with fail
            go_roundg (nz - (k + 1))
            case measure => omega
            case rel => exact ⟨k + 1, X3, b2, Al2, nl2, cl2, Ml2, A7, no + n6, c7, by omega, rfl, rfl, rfl, .inr ⟨_, rfl⟩, by go_num, HX7, HM7, HOF7, HCT7, HO7, HF7⟩
        · have HCK := Lib.hid hck
          have HRU := Lib.hid (drun_bad (some ⟨gt, 0, none⟩) Al2 Ar cl2 cr w5.heap.size nl2 nr Ml2 w5 HND.out (Nat.le_refl _) HSM5.out (by rw [HFM.out]; exact hck))
          clear hck HND
          go_wp2_with fail
          refine HRU.out.mono ?_
          rintro e w6 ⟨rfl, f6⟩
          have FF := Lib.hid (HFb.out.1.trans (f6.mono (B' := w.heap.size) (L' := []) hsw5 (by simp)))
          clear f6 HRU
          go_wp2_with fail
          (try simp only [Exit.inBlock, Exit.then])
          refine bodyPost_ret (results_tmp4 rfl _ _ _) rfl ?_
          have hsg : segG X (fstS P) R = (10, X2) := by
            rw [HSEG.out]
            unfold recsG
            rw [if_pos HCK.out]
          have hrr : r = segG X (fstS P) R := HRS.out.trans (segsG_err (z := ⟨P, R, _, _⟩) (by show (segG X (fstS P) R).1 ≠ 0; rw [hsg]; simp))
          rw [hsg] at hrr
          rw [hrr]
          exact .inl ⟨by simp, rfl, FF.out⟩
    · obtain rfl : nz = k := by omega
      have hT : Z.drop nz = [] := List.drop_eq_nil_of_le (by rw [HNZ.out]; exact Nat.le_refl _)
      rw [hT] at HX
      clear hT
      go_wp2_with fail
      (try simp only [Exit.inBlock, Exit.then])
      refine bodyPost_ret (results_tmp4 rfl _ _ _) rfl ?_
      have hr : r = (0, X) := HX.out.1
      rw [hr]
      exact .inr ⟨rfl, Ao, no, co, Al, nl, cl, Ml, gt, gm, rfl, ownsRow_base HO.out (by have := HF.out.1.size; omega), HM.out.2.1.nds (Fr.refl _ [] _) (by simp), HM.out.2.2.1, HM.out.2.2.2, HCT.out, HX.out.2.1, hwgt, hwgm, HF.out.1⟩
end Go.Proofs.YthfibggbipkmfaaGreat
namespace Go.Proofs.YthfibggbipkmfaaGreat
open Go.RowKit Go.Fb
set_option linter.unusedVariables false
/-- Two jobs with one table; the lines of the one are those of the other, but for what stands ahead. -/
def Twin (o o' : List (Nat → Int)) (a b : DS) : Prop := a.T = b.T ∧ ∃ t, a.out = o ++ t ∧ b.out = o' ++ t
theorem foldl_twin {α : Type} {o o' : List (Nat → Int)} (f : DS → α → DS) : ∀ (l : List α) {a b : DS}, (∀ x ∈ l, ∀ a b, Twin o o' a b → Twin o o' (f a x) (f b x)) → Twin o o' a b → Twin o o' (l.foldl f a) (l.foldl f b)
  | [], _, _, _, h => h
  | x :: l, a, b, hf, h => foldl_twin f l (fun y hy => hf y (by simp [hy])) (hf x (by simp) a b h)
theorem come_twin {L : List Nd} {o o' : List (Nat → Int)} {put : Int → Int → Int × Int → DS → DS} (hp : ∀ id key v a b, Twin o o' a b → Twin o o' (put id key v a) (put id key v b)) (frm id key : Int) (v : Int × Int) {a b : DS} (h : Twin o o' a b) : Twin o o' (comeD L put frm id key v a) (comeD L put frm id key v b) := by
  obtain ⟨hT, t, h1, h2⟩ := h
  unfold comeD
  cases findN L id with
  | none => exact ⟨hT, t, h1, h2⟩
  | some x =>
    simp only
    by_cases hk : x.kind = 2
    · rw [if_pos hk, if_pos hk]
      exact ⟨hT, t ++ [lnF id frm key v.1 v.2], by simp [h1], by simp [h2]⟩
    · rw [if_neg hk, if_neg hk]
      have e1 : emitsD x a.T id key v = emitsD x b.T id key v := by rw [hT]
      rw [e1]
      exact foldl_twin _ _ (fun u _ a b h => hp id key u a b h) ⟨by simp only [hT], t, h1, h2⟩
theorem put_twin {L : List Nd} {o o' : List (Nat → Int)} : ∀ (d : Nat) (id key : Int) (v : Int × Int) {a b : DS}, Twin o o' a b → Twin o o' (putD L d id key v a) (putD L d id key v b)
  | 0, _, _, _, _, _, h => h
  | d + 1, id, key, v, a, b, h => foldl_twin _ _ (fun c _ a b h => come_twin (fun id key v a b h => put_twin d id key v h) id c key v h) h
theorem flow_twin {L : List Nd} {o o' : List (Nat → Int)} (l : List (Nat → Int)) {a b : DS} (h : Twin o o' a b) : Twin o o' (flowD L l a) (flowD L l b) :=
  foldl_twin _ _ (fun x _ a b h => put_twin 8 0 _ _ (a := ⟨a.T, a.out, _⟩) (b := ⟨b.T, b.out, _⟩) h) h
theorem flow_new {L : List Nd} (l : List (Nat → Int)) (S : DS) (C : Int → Option Int) : (flowD L l S).T = (flowD L l ⟨S.T, [], C⟩).T ∧ (flowD L l S).out = S.out ++ (flowD L l ⟨S.T, [], C⟩).out := by
  obtain ⟨h, t, h1, h2⟩ := flow_twin (L := L) (o := S.out) (o' := []) l (a := S) (b := ⟨S.T, [], C⟩) ⟨rfl, [], by simp, by simp⟩
  rw [List.nil_append] at h2
  exact ⟨h, by rw [h1, h2]⟩
theorem flow_app (L : List Nd) (l m : List (Nat → Int)) (S : DS) : flowD L (l ++ m) S = flowD L m (flowD L l S) := by unfold flowD; rw [List.foldl_append]
/-- Cut anywhere, records make the same. -/
theorem recs_cut (X : GS) (l m : List (Nat → Int)) : ∃ E, segsG [([], l ++ m)] X = E ∧ (segsG [([], l), ([], m)] X).1 = E.1 ∧ (E.1 = 0 → (segsG [([], l), ([], m)] X).2 = E.2) := by
  have hp : ∀ (X : GS), planG X [] = (0, X) := fun X => by unfold planG; exact if_pos rfl
  have hs : ∀ (X : GS) R, segG X [] R = recsG X R := fun X R => by unfold segG; rw [hp]; simp
  have h1 : ∀ (X : GS) R, segsG [([], R)] X = recsG X R := fun X R => by
    unfold segsG
    simp only [hs]
    split
    · rfl
    · rename_i h
      unfold segsG
      have h : (recsG X R).1 = 0 := Decidable.not_not.1 h
      rw [← h]
  have h2 : ∀ (X : GS) R R', segsG [([], R), ([], R')] X = if (recsG X R).1 ≠ 0 then recsG X R else recsG (recsG X R).2 R' := fun X R R' => by
    conv => lhs; unfold segsG
    simp only [hs]
    rw [h1]
  refine ⟨_, rfl, ?_⟩
  rw [h1, h2]
  unfold recsG
  by_cases hc : checkN X.L = 0
  · have hne : ¬ (checkN X.L ≠ 0) := fun h => h hc
    simp only [if_neg hne]
    by_cases hl : l.all recR = true
    · have hl' : ¬ (l.all recR = false) := by rw [hl]; simp
      simp only [if_neg hl']
      by_cases hm : m.all recR = true
      · have hm' : ¬ (m.all recR = false) := by rw [hm]; simp
        have hlm : ¬ ((l ++ m).all recR = false) := by rw [List.all_append, hl, hm]; simp
        simp only [if_neg hm', if_neg hlm]
        simp only [ne_eq, not_true_eq_false, if_false, if_neg hne]
        refine ⟨trivial, fun _ => ?_⟩
        obtain ⟨a, b⟩ := flow_new (L := X.L) m (flowD X.L l ⟨X.T, [], cnt0 X.L⟩) (cnt0 X.L)
        rw [flow_app, a, b, List.append_assoc]
      · have hm : m.all recR = false := by simpa using hm
        have hlm : (l ++ m).all recR = false := by rw [List.all_append, hm]; simp
        simp [hm, hlm, hc]
    · have hl : l.all recR = false := by simpa using hl
      have hlm : (l ++ m).all recR = false := by rw [List.all_append, hl]; simp
      simp [hl, hlm]
  · simp [hc]
end Go.Proofs.YthfibggbipkmfaaGreat
namespace Go.Proofs.YthfibggbipkmfaaGreat
open Go.RowKit Go.Fb
set_option linter.unusedVariables false
set_option maxRecDepth 100000 in
set_option maxHeartbeats 4000000 in
theorem wide1_any (gB : Nat) (m : Int) (A : Option Addr) (c B n : Nat) (l : List (Int × Int)) (w : World) (hn : n = l.length) (hm : n ≤ 1000000) (hr : Reads w B 2 A n (cellsI l)) (hB : B ≤ w.heap.size) (hb : Blk w gB 3 #[.int .i64 m]) :
    Calls Tryz.prog 52 #[.slice A n c, .pointer (some ⟨gB, 0, none⟩)] w fun e w' => e = .returned (.tuple #[]) ∧ (∃ m', Blk w' gB 3 #[.int .i64 m']) ∧ Fr w.heap.size [gB] w w' := by
  have HR := Lib.hid hr
  have HN := Lib.hid hn
  have HBB := Lib.hid hb
  have hgb := hb.lt
  clear hr hn hb
  go_enter Tryz.func52, Tryz.ntmps52
  go_wp2_with fail
  go_loopg [3, 5, 8] n (fun g s3 s5 s8 wr => ∃ (k : Nat) (e : Int), k ≤ n ∧ g = n - k ∧ s3 = .int .i64 e ∧ (s5 = undef ∨ ∃ a, s5 = .pointer a) ∧ s8 = .int .i64 k ∧ RowKit.Hid (Fr w.heap.size [] w wr))
  case atStart => exact ⟨0, 0, Nat.zero_le _, rfl, rfl, .inl rfl, rfl, Lib.hid (Fr.refl _ _ _)⟩
  case round =>
    obtain ⟨k, e, hk, rfl, rfl, h5, rfl, FR⟩ := hrel
    by_cases hkn : k < n
    · have hki : (k : Int) < (n : Int) := by omega
      have hk0 : (0 : Int) ≤ (k : Int) := by omega
      obtain ⟨x, hx⟩ : ∃ x, l[k]? = some x := ⟨_, List.getElem?_eq_getElem (by rw [← HN.out]; exact hkn)⟩
      obtain ⟨b, off, rfl, hb, p0, p1⟩ := reads_ins (by rw [← HN.out]; exact HR.out.fr FR.out hB (by simp)) hx
      have fa := (Fr.refl wr.heap.size [] wr).alloc (Nat.le_refl _) (.cells #[.int .i64 x.1, .int .i64 x.2] 121)
      have BX := Lib.hid (Blk.new wr 121 #[.int .i64 x.1, .int .i64 x.2])
      have FA := Lib.hid (FR.out.trans (fa.mono (B' := w.heap.size) (L' := []) FR.out.size (by simp)))
      clear fa FR hx
      go_upto_region 4 with fail
      clear p0 p1
      generalize wr.alloc (.cells #[.int .i64 x.1, .int .i64 x.2] 121) = wa at *
      have x0 := BX.out.cell 0
      simp at x0
      by_cases h14 : x.1 = 14
      · go_wp2_with fail
        go_roundg (n - (k + 1))
        case measure => omega
        case rel => exact ⟨k + 1, _, by omega, rfl, rfl, .inr ⟨_, rfl⟩, by go_num, FA⟩
      · go_wp2_with fail
        go_roundg (n - (k + 1))
        case measure => omega
        case rel => exact ⟨k + 1, _, by omega, rfl, rfl, .inr ⟨_, rfl⟩, by go_num, FA⟩
    · obtain rfl : n = k := by omega
      have hbr := HBB.out.fr FR.out hgb (by simp)
      have q0 := hbr.cell 0
      have z0 := hbr.frozen 0
      have HBR := Lib.hid hbr
      simp at q0
      clear hbr
      by_cases h1000 : m < 1000
      · go_wp2_with fail
        go_end0
        refine ⟨rfl, ⟨_, HBR.out.set_ 0 _⟩, (FR.out.mono (B' := w.heap.size) (L' := [gB]) (Nat.le_refl _) (by simp)).setCell (p := ⟨gB, 0, none⟩) (.inr (by simp)) _⟩
      · go_wp2_with fail
        go_end0
        exact ⟨rfl, ⟨m, HBR.out⟩, FR.out.mono (Nat.le_refl _) (by simp)⟩
set_option maxRecDepth 100000 in
set_option maxHeartbeats 8000000 in
theorem wide_any (A A2 : Option Addr) (c c2 B n n2 : Nat) (M : List Ndm) (S : List Stm) (w : World) (h : Nds w B A n M) (hB : B ≤ w.heap.size) (hs : ∀ m ∈ M, m.1.pg.length ≤ 1000000) (hn : n ≤ 1000000) (hS : Sts w B A2 n2 S) (hss : ∀ m ∈ S, m.1.nd.pg.length ≤ 1000000) (hn2 : n2 ≤ 1000000) :
    Calls Tryz.prog 30 #[.slice A n c, .slice A2 n2 c2] w fun e w' => (∃ b, e = .returned (.bool b)) ∧ Fr w.heap.size [] w w' := by
  have HM := Lib.hid (fun (wx : World) (hx : Fr w.heap.size [] w wx) => (h.frw hx hB (by simp) : Nds wx B A n M))
  have HS := Lib.hid (fun (wx : World) (hx : Fr w.heap.size [] w wx) => (hS.frw hx hB (by simp) : Sts wx B A2 n2 S))
  have HSM := Lib.hid hs
  have HSS := Lib.hid hss
  have HBB := Lib.hid hB
  have fb := (Fr.refl w.heap.size [] w).alloc (Nat.le_refl _) (.cells #[.int .i64 1] 3)
  have BM0 := Lib.hid (Blk.new w 3 #[.int .i64 1])
  have F0 := Lib.hid fb
  clear h hS hs hss fb
  go_enter Tryz.func30, Tryz.ntmps30
  go_upto_region 2 with fail
  generalize w.alloc (.cells #[.int .i64 1] 3) = w1 at *
  obtain ⟨gB, hgB⟩ : ∃ g, g = w.heap.size := ⟨_, rfl⟩
  rw [← hgB] at BM0 ⊢
  have hgBw : w.heap.size ≤ gB := by omega
  clear hgB
  go_wp2_with fail
  go_loopg [8, 14] n (fun g s8 s14 wr => ∃ (k : Nat) (mm : Int), k ≤ n ∧ g = n - k ∧ (s8 = undef ∨ ∃ a, s8 = .pointer a) ∧ s14 = .int .i64 k ∧ RowKit.Hid (Blk wr gB 3 #[.int .i64 mm]) ∧ RowKit.Hid (Fr w.heap.size [] w wr))
  case atStart => exact ⟨0, 1, Nat.zero_le _, rfl, .inl rfl, rfl, BM0, F0⟩
  case round =>
    clear BM0 F0
    obtain ⟨k, mm, hk, rfl, h8, rfl, BM, FR⟩ := hrel
    have hszr := FR.out.size
    by_cases hkn : k < n
    · have hki : (k : Int) < (n : Int) := by omega
      have hk0 : (0 : Int) ≤ (k : Int) := by omega
      have HND := HM.out wr FR.out
      obtain ⟨m, hx⟩ : ∃ m, M[k]? = some m := ⟨_, List.getElem?_eq_getElem (by rw [← HND.num]; exact hkn)⟩
      obtain ⟨b1, o1, rfl, hb1, hc1⟩ := HND.get hx
      have hin := HND.inn m (List.mem_of_getElem? hx)
      have hsm := HSM.out m (List.mem_of_getElem? hx)
      obtain ⟨x, sf, sp⟩ := m
      obtain ⟨⟨Af, cf, hf1, _⟩, ⟨Ap, cp, hp1, hrp⟩⟩ := hin
      simp only at hf1 hp1 hrp hsm
      subst hf1
      subst hp1
      obtain ⟨nf, hnf⟩ : ∃ z, z = x.fr.length := ⟨_, rfl⟩
      obtain ⟨np, hnp⟩ : ∃ z, z = x.pg.length := ⟨_, rfl⟩
      rw [← hnf, ← hnp] at hc1
      rw [← hnp] at hrp hsm
      have HNP := Lib.hid hnp
      have p0 := hc1 0 (.int .i64 x.id) rfl
      have p1 := hc1 1 (.int .i64 x.kind) rfl
      have p2 := hc1 2 (.slice Af nf cf) rfl
      have p3 := hc1 3 (.slice Ap np cp) rfl
      have p4 := hc1 4 (.int .i64 x.par) rfl
      have p5 := hc1 5 (.int .i64 (x.rt 0)) rfl
      have p6 := hc1 6 (.int .i64 (x.rt 1)) rfl
      have p7 := hc1 7 (.int .i64 (x.rt 2)) rfl
      have p8 := hc1 8 (.int .i64 (x.rt 3)) rfl
      have p9 := hc1 9 (.int .i64 (x.rt 4)) rfl
      have p10 := hc1 10 (.int .i64 (x.rt 5)) rfl
      have p11 := hc1 11 (.int .i64 (x.rt 6)) rfl
      have p12 := hc1 12 (.int .i64 (x.rt 7)) rfl
      simp only [Nat.add_zero] at p0
      have HRP := Lib.hid hrp
      clear hc1 hx HND hnf hnp hrp
      have fa := (Fr.refl wr.heap.size [] wr).alloc (Nat.le_refl _) (.cells (ndA x (.slice Af nf cf) (.slice Ap np cp)) 49)
      have BX := Lib.hid (Blk.new wr 49 (ndA x (.slice Af nf cf) (.slice Ap np cp)))
      have BMa := Lib.hid (BM.out.fr fa BM.out.lt (by simp))
      have HRPa := Lib.hid (HRP.out.fr fa (Nat.le_trans HBB.out hszr) (by simp))
      have FRa := Lib.hid (FR.out.trans (fa.mono (B' := w.heap.size) (L' := []) hszr (by simp)))
      clear fa hb1 FR BM HRP
      go_upto_region 6 with fail
      clear p0 p1 p2 p3 p4 p5 p6 p7 p8 p9 p10 p11 p12
      generalize wr.alloc (.cells (ndA x (.slice Af nf cf) (.slice Ap np cp)) 49) = wa at *
      generalize wr.heap.size = gx at *
      have x3 : wa.cell? ⟨gx, 3, none⟩ = some (.slice Ap np cp) := BX.out.cell 3
      have HC := Lib.hid (wide1_any gB mm Ap cp w.heap.size np x.pg wa HNP.out (by omega) (HRPa.out.more HBB.out) FRa.out.size BMa.out)
      go_wp2_with fail
      refine HC.out.mono ?_
      rintro e w5 ⟨rfl, ⟨mm2, hb5⟩, f5⟩
      have BM5 := Lib.hid hb5
      have FR5 := Lib.hid (FRa.out.trans (f5.mono (B' := w.heap.size) (L' := []) FRa.out.size (by simp; omega)))
      clear hb5 f5 HC x3 BX
      go_wp2_with fail
      go_roundg (n - (k + 1))
      case measure => omega
      case rel => exact ⟨k + 1, mm2, by omega, rfl, .inr ⟨_, rfl⟩, by go_num, BM5, FR5⟩
    · obtain rfl : n = k := by omega
      clear h8
      go_wp2_with fail
      go_loopg [10, 25] n2 (fun g s10 s25 wr => ∃ (k : Nat) (mm : Int), k ≤ n2 ∧ g = n2 - k ∧ (s10 = undef ∨ ∃ a, s10 = .pointer a) ∧ s25 = .int .i64 k ∧ RowKit.Hid (Blk wr gB 3 #[.int .i64 mm]) ∧ RowKit.Hid (Fr w.heap.size [] w wr))
      case atStart => exact ⟨0, mm, Nat.zero_le _, rfl, .inl rfl, rfl, BM, FR⟩
      case round =>
        clear BM FR hk hszr hkn
        obtain ⟨k, mm, hk, rfl, h10, rfl, BM, FR⟩ := hrel
        have hszr := FR.out.size
        by_cases hkn : k < n2
        · have hki : (k : Int) < (n2 : Int) := by omega
          have hk0 : (0 : Int) ≤ (k : Int) := by omega
          have HND := HS.out wr FR.out
          obtain ⟨m, hx⟩ : ∃ m, S[k]? = some m := ⟨_, List.getElem?_eq_getElem (by rw [← HND.num]; exact hkn)⟩
          obtain ⟨b1, o1, rfl, hb1, hc1⟩ := HND.get hx
          have hin := HND.inn m (List.mem_of_getElem? hx)
          have hsm := HSS.out m (List.mem_of_getElem? hx)
          obtain ⟨⟨kd, x, rs⟩, sf, sp⟩ := m
          obtain ⟨⟨Af, cf, hf1, _⟩, ⟨Ap, cp, hp1, hrp⟩⟩ := hin
          simp only at hf1 hp1 hrp hsm
          subst hf1
          subst hp1
          obtain ⟨nf, hnf⟩ : ∃ z, z = x.fr.length := ⟨_, rfl⟩
          obtain ⟨np, hnp⟩ : ∃ z, z = x.pg.length := ⟨_, rfl⟩
          rw [← hnf, ← hnp] at hc1
          rw [← hnp] at hrp hsm
          have HNP := Lib.hid hnp
          have p0 := hc1 0 (.int .i64 kd) rfl
          have p1 := hc1 1 (.int .i64 x.id) rfl
          have p2 := hc1 2 (.int .i64 x.kind) rfl
          have p3 := hc1 3 (.slice Af nf cf) rfl
          have p4 := hc1 4 (.slice Ap np cp) rfl
          have p5 := hc1 5 (.int .i64 x.par) rfl
          have p6 := hc1 6 (.int .i64 (x.rt 0)) rfl
          have p7 := hc1 7 (.int .i64 (x.rt 1)) rfl
          have p8 := hc1 8 (.int .i64 (x.rt 2)) rfl
          have p9 := hc1 9 (.int .i64 (x.rt 3)) rfl
          have p10 := hc1 10 (.int .i64 (x.rt 4)) rfl
          have p11 := hc1 11 (.int .i64 (x.rt 5)) rfl
          have p12 := hc1 12 (.int .i64 (x.rt 6)) rfl
          have p13 := hc1 13 (.int .i64 (x.rt 7)) rfl
          have p14 := hc1 14 (.bool rs) rfl
          simp only [Nat.add_zero] at p0
          have HRP := Lib.hid hrp
          clear hc1 hx HND hnf hnp hrp
          have fa := (Fr.refl wr.heap.size [] wr).alloc (Nat.le_refl _) (.cells (stA kd x rs (.slice Af nf cf) (.slice Ap np cp)) 110)
          have BX := Lib.hid (Blk.new wr 110 (stA kd x rs (.slice Af nf cf) (.slice Ap np cp)))
          have BMa := Lib.hid (BM.out.fr fa BM.out.lt (by simp))
          have HRPa := Lib.hid (HRP.out.fr fa (Nat.le_trans HBB.out hszr) (by simp))
          have FRa := Lib.hid (FR.out.trans (fa.mono (B' := w.heap.size) (L' := []) hszr (by simp)))
          clear fa hb1 FR BM HRP
          go_upto_region 11 with fail
          clear p0 p1 p2 p3 p4 p5 p6 p7 p8 p9 p10 p11 p12 p13 p14
          generalize wr.alloc (.cells (stA kd x rs (.slice Af nf cf) (.slice Ap np cp)) 110) = wa at *
          generalize wr.heap.size = gx at *
          have x3 : wa.cell? ⟨gx, 4, none⟩ = some (.slice Ap np cp) := BX.out.cell 4
          have HC := Lib.hid (wide1_any gB mm Ap cp w.heap.size np x.pg wa HNP.out (by omega) (HRPa.out.more HBB.out) FRa.out.size BMa.out)
          go_wp2_with fail
          refine HC.out.mono ?_
          rintro e w5 ⟨rfl, ⟨mm2, hb5⟩, f5⟩
          have BM5 := Lib.hid hb5
          have FR5 := Lib.hid (FRa.out.trans (f5.mono (B' := w.heap.size) (L' := []) FRa.out.size (by simp; omega)))
          clear hb5 f5 HC x3 BX
          go_wp2_with fail
          go_roundg (n2 - (k + 1))
          case measure => omega
          case rel => exact ⟨k + 1, mm2, by omega, rfl, .inr ⟨_, rfl⟩, by go_num, BM5, FR5⟩
        · obtain rfl : n2 = k := by omega
          have q0 := BM.out.cell 0
          simp at q0
          go_wp2_with fail
          go_ret
          exact ⟨⟨_, rfl⟩, FR.out⟩
theorem greatP_small {P : List Stp} (h : greatP [] P = false) : P.length ≤ 20 ∧ ∀ s ∈ P, s.nd.fr.length ≤ 20 ∧ s.nd.pg.length ≤ 60 := by
  unfold greatP at h
  simp only [Bool.or_eq_false_iff, decide_eq_false_iff_not, List.any_eq_false] at h
  obtain ⟨_, h1, h2⟩ := h
  refine ⟨by omega, fun s hs => ?_⟩
  have h3 := h2 s hs
  unfold greatN at h3
  simp at h3
  omega
theorem greatN_small {L : List Nd} (h : greatN L = false) : L.length ≤ 20 ∧ ∀ x ∈ L, x.fr.length ≤ 20 ∧ x.pg.length ≤ 60 := by
  unfold greatN at h
  simp only [Bool.or_eq_false_iff, decide_eq_false_iff_not, List.any_eq_false] at h
  obtain ⟨h1, h2⟩ := h
  refine ⟨by omega, fun s hs => ?_⟩
  have h3 := h2 s hs
  simp at h3
  omega
theorem great_small {M : List Ndm} (h : greatN (fstN M) = false) : Small M := by
  obtain ⟨h1, h2⟩ := greatN_small h
  refine ⟨by simp [fstN] at h1; omega, fun m hm => ?_⟩
  have := h2 m.1 (List.mem_map.2 ⟨m, hm, rfl⟩)
  omega
theorem greatP_smallS {S : List Stm} (h : greatP [] (fstS S) = false) : SmallS S ∧ S.length ≤ 1000 := by
  obtain ⟨h1, h2⟩ := greatP_small h
  refine ⟨fun m hm => ?_, by simp [fstS] at h1; omega⟩
  have := h2 m.1 (List.mem_map.2 ⟨m, hm, rfl⟩)
  omega
def GreatIn (M : List Ndm) (Z : List Sg) : Prop := greatN (fstN M) = false ∧ Z.length ≤ 5 ∧ ∀ z ∈ Z, greatP [] (fstS z.P) = false ∧ z.R.length ≤ 40
theorem GreatIn.small {M : List Ndm} {Z : List Sg} (h : GreatIn M Z) : Small M ∧ SmallG Z ∧ M.length ≤ 20 := by
  refine ⟨great_small h.1, fun z hz => ?_, by have := (greatN_small h.1).1; simpa [fstN] using this⟩
  obtain ⟨h1, h2⟩ := h.2.2 z hz
  exact ⟨(greatP_smallS h1).1, (greatP_smallS h1).2, Nat.le_trans h2 (by decide)⟩
set_option maxRecDepth 100000 in
set_option maxHeartbeats 8000000 in
theorem great12_any (A Az : Option Addr) (c cz B n nz : Nat) (M : List Ndm) (Z : List Sg) (w : World) (h : Nds w B A n M) (hB : B ≤ w.heap.size) (hn : n ≤ maxLen) (hZ : Sgs w B Az nz Z) (hmz : ∀ z ∈ Z, z.P.length ≤ maxLen ∧ z.R.length ≤ maxLen) :
    Calls Tryz.prog 10 #[.slice A n c, .slice Az nz cz] w fun e w' => (∃ g, e = .returned (.bool g) ∧ (g = false → GreatIn M Z)) ∧ Fr w.heap.size [] w w' := by
  have HG8 := Lib.hid (great08_any A c B n M w h hB hn)
  have HM := Lib.hid (fun (wx : World) (hx : Fr w.heap.size [] w wx) => (h.frw hx hB (by simp) : Nds wx B A n M))
  have HZS := Lib.hid (fun (wx : World) (hx : Fr w.heap.size [] w wx) => (hZ.frw hx hB (by simp) : Sgs wx B Az nz Z))
  have HNZ := Lib.hid hZ.num
  have HNM := Lib.hid h.num
  have HMZ := Lib.hid hmz
  have HBB := Lib.hid hB
  obtain ⟨g8, hg8⟩ : ∃ g, g = greatN (fstN M) := ⟨_, rfl⟩
  rw [← hg8] at HG8
  have HE8 := Lib.hid hg8
  clear h hZ hmz hg8
  go_enter Tryz.func10, Tryz.ntmps10
  go_wp2_with fail
  refine HG8.out.mono ?_
  rintro e w1 ⟨rfl, f1⟩
  have F1 := Lib.hid f1
  clear f1 HG8
  cases g8 with
  | true =>
    go_wp2_with fail
    go_ret
    exact ⟨⟨true, rfl, fun h => by cases h⟩, F1.out⟩
  | false => ?_
  by_cases h5 : nz ≤ 5
  · have h5i : ((nz : Nat) : Int) ≤ 5 := by omega
    have hsm := great_small HE8.out.symm
    have HSM := Lib.hid hsm
    have hn20 : n ≤ 20 := by rw [HNM.out]; have := (greatN_small HE8.out.symm).1; simpa [fstN] using this
    clear hsm hn
    go_wp2_with fail
    go_loopg [6, 16] nz (fun g s6 s16 wr => ∃ (k : Nat), k ≤ nz ∧ g = nz - k ∧ (s6 = undef ∨ ∃ a, s6 = .pointer a) ∧ s16 = .int .i64 k ∧ RowKit.Hid (∀ z ∈ Z.take k, greatP [] (fstS z.P) = false ∧ z.R.length ≤ 40) ∧ RowKit.Hid (Fr w.heap.size [] w wr))
    case atStart => exact ⟨0, Nat.zero_le _, rfl, .inl rfl, rfl, Lib.hid (by simp), F1⟩
    case round =>
      clear F1
      obtain ⟨k, hk, rfl, h6, rfl, HP, FR⟩ := hrel
      have hszr := FR.out.size
      by_cases hkn : k < nz
      · have hki : (k : Int) < (nz : Int) := by omega
        have hk0 : (0 : Int) ≤ (k : Int) := by omega
        obtain ⟨z, hz⟩ : ∃ z, Z[k]? = some z := ⟨_, List.getElem?_eq_getElem (by rw [← HNZ.out]; exact hkn)⟩
        have HSW := HZS.out wr FR.out
        obtain ⟨bz, oz, rfl, hbz, p0, p1⟩ := HSW.get hz
        have hzi := HSW.inn z (List.mem_of_getElem? hz)
        have hzm := HMZ.out z (List.mem_of_getElem? hz)
        have htk : Z.take (k + 1) = Z.take k ++ [z] := by rw [List.take_add_one, hz]; rfl
        have HTK := Lib.hid htk
        clear hz HSW htk
        obtain ⟨P, R, sp, sr⟩ := z
        obtain ⟨⟨Ap, cp, hsp, hP⟩, ⟨Ar, cr, hsr, hR⟩⟩ := hzi
        simp only at hsp hsr hP hR p0 p1 hzm
        subst hsp
        subst hsr
        obtain ⟨np, hnp⟩ : ∃ m, m = P.length := ⟨_, rfl⟩
        obtain ⟨nr, hnr⟩ : ∃ m, m = R.length := ⟨_, rfl⟩
        rw [← hnp] at hP p0 hzm
        rw [← hnr] at hR p1 hzm
        have HNP := Lib.hid hnp
        have HNR := Lib.hid hnr
        have fa := (Fr.refl wr.heap.size [] wr).alloc (Nat.le_refl _) (.cells #[.slice Ap np cp, .slice Ar nr cr] 28)
        have BX := Lib.hid (Blk.new wr 28 #[.slice Ap np cp, .slice Ar nr cr])
        have HPa := Lib.hid (hP.frw fa (Nat.le_trans HBB.out hszr) (by simp))
        have FRa := Lib.hid (FR.out.trans (fa.mono (B' := w.heap.size) (L' := []) hszr (by simp)))
        clear fa hP hR hnp hnr FR
        go_upto_region 6 with fail
        clear p0 p1
        generalize wr.alloc (.cells #[.slice Ap np cp, .slice Ar nr cr] 28) = wa at *
        obtain ⟨gx, hgx⟩ : ∃ g, g = wr.heap.size := ⟨_, rfl⟩
        rw [← hgx] at BX ⊢
        clear hgx
        have x0 := BX.out.cell 0
        have x1 := BX.out.cell 1
        simp at x0 x1
        have HG10 := Lib.hid (great10_any none Ap 0 cp w.heap.size 0 np [] P wa ⟨rfl, Reads.none_, by simp⟩ FRa.out.size (by unfold maxLen; omega) (HPa.out.more HBB.out) hzm.1)
        rw [show fstN [] = [] from rfl] at HG10
        obtain ⟨g10, hg10⟩ : ∃ g, g = greatP [] (fstS P) := ⟨_, rfl⟩
        rw [← hg10] at HG10
        have HE10 := Lib.hid hg10
        have HBX := BX.out.lt
        clear hg10
        cases g10 with
        | true =>
          go_wp2_with fail
          refine HG10.out.mono ?_
          rintro e w5 ⟨rfl, f5⟩
          have FF := Lib.hid (FRa.out.trans (f5.mono (B' := w.heap.size) (L' := []) FRa.out.size (by simp)))
          clear f5
          go_wp2_with fail
          go_ret
          exact ⟨⟨true, rfl, fun h => by cases h⟩, FF.out⟩
        | false => ?_
        obtain ⟨hp1, hp2⟩ := greatP_small HE10.out.symm
        by_cases h40 : nr ≤ 40
        · have h40i : ((nr : Nat) : Int) ≤ 40 := by omega
          have HWD := Lib.hid (fun (wx : World) (hx : Fr w.heap.size [] w wx) (hp : Sts wx B Ap np P) => wide_any A Ap c cp B n np M P wx (HM.out wx hx) (Nat.le_trans HBB.out hx.size) (fun m hm => (HSM.out.2 m hm).2) (by omega) hp (fun m hm => by have := hp2 m.1 (List.mem_map.2 ⟨m, hm, rfl⟩); omega) (by rw [HNP.out]; simp [fstS] at hp1; omega))
          clear hp1 hp2
          go_wp2_with fail
          refine HG10.out.mono ?_
          rintro e w5 ⟨rfl, f5⟩
          have FF := Lib.hid (FRa.out.trans (f5.mono (B' := w.heap.size) (L' := []) FRa.out.size (by simp)))
          have HP5 := Lib.hid (HPa.out.frw f5 (Nat.le_trans HBB.out FRa.out.size) (by simp))
          have BX5 := BX.out.fr f5 HBX (by simp)
          have y0 := BX5.cell 0
          have y1 := BX5.cell 1
          simp at y0 y1
          have HW5 := Lib.hid (HWD.out w5 FF.out HP5.out)
          clear f5 HG10 x0 x1 BX5 HWD
          go_wp2_with fail
          refine HW5.out.mono ?_
          rintro e w6 ⟨⟨b, rfl⟩, f6⟩
          have FG := Lib.hid (FF.out.trans (f6.mono (B' := w.heap.size) (L' := []) FF.out.size (by simp)))
          clear f6 HW5 y0 y1 FF
          cases b with
          | true =>
            go_wp2_with fail
            go_ret
            exact ⟨⟨true, rfl, fun h => by cases h⟩, FG.out⟩
          | false =>
            go_wp2_with fail
            go_roundg (nz - (k + 1))
            case measure => omega
            case rel =>
              refine ⟨k + 1, by omega, rfl, .inr ⟨_, rfl⟩, by go_num, Lib.hid (fun z hz => ?_), FG⟩
              rw [HTK.out] at hz
              rcases List.mem_append.1 hz with e | e
              · exact HP.out z e
              · rw [List.mem_singleton.1 e]
                exact ⟨HE10.out.symm, by rw [← HNR.out]; exact h40⟩
        · have h40i : (40 : Int) < (nr : Int) := by omega
          clear hp1 hp2
          go_wp2_with fail
          refine HG10.out.mono ?_
          rintro e w5 ⟨rfl, f5⟩
          have FF := Lib.hid (FRa.out.trans (f5.mono (B' := w.heap.size) (L' := []) FRa.out.size (by simp)))
          have BX5 := BX.out.fr f5 HBX (by simp)
          have y0 := BX5.cell 0
          have y1 := BX5.cell 1
          simp at y0 y1
          clear f5 HG10 x0 x1 BX5
          go_wp2_with fail
          go_ret
          exact ⟨⟨true, rfl, fun h => by cases h⟩, FF.out⟩
      · obtain rfl : nz = k := by omega
        have hT : Z.take nz = Z := List.take_of_length_le (by rw [HNZ.out]; exact Nat.le_refl _)
        rw [hT] at HP
        clear hT
        go_wp2_with fail
        go_ret
        exact ⟨⟨false, rfl, fun _ => ⟨HE8.out.symm, by rw [← HNZ.out]; exact h5, HP.out⟩⟩, FR.out⟩
  · have h5i : (5 : Int) < ((nz : Nat) : Int) := by omega
    go_wp2_with fail
    go_ret
    exact ⟨⟨true, rfl, fun h => by cases h⟩, F1.out⟩
end Go.Proofs.YthfibggbipkmfaaGreat
namespace Go.Proofs.YthfibggbipkmfaaGreat
open Go.RowKit Go.Fb
set_option linter.unusedVariables false
theorem sgs_one {w : World} {g t nr cr : Nat} {Ar : Option Addr} {R : List (Nat → Int)} {B : Nat} (hb : Blk w g t #[.slice none 0 0, .slice Ar nr cr]) (hnr : nr = R.length) (hr : Reads w B 3 Ar nr (cellsR R)) (hB : B ≤ w.heap.size) : Sgs w w.heap.size (some ⟨g, 0, none⟩) 1 [⟨[], R, .slice none 0 0, .slice Ar nr cr⟩] := by
  refine ⟨rfl, (Reads.of_blk hb (by rfl)).more hb.lt, fun z hz => ?_⟩
  rw [List.mem_singleton] at hz
  subst hz
  exact ⟨⟨none, 0, rfl, ⟨rfl, Reads.none_, by simp⟩⟩, ⟨Ar, cr, by simp only; rw [hnr], by simp only; rw [← hnr]; exact hr.more hB⟩⟩
theorem sgs_two {w : World} {g t n1 n2 c1 c2 : Nat} {A1 A2 : Option Addr} {R1 R2 : List (Nat → Int)} {B : Nat} (hb : Blk w g t #[.slice none 0 0, .slice A1 n1 c1, .slice none 0 0, .slice A2 n2 c2]) (h1 : n1 = R1.length) (h2 : n2 = R2.length) (hr1 : Reads w B 3 A1 n1 (cellsR R1)) (hr2 : Reads w B 3 A2 n2 (cellsR R2)) (hB : B ≤ w.heap.size) : Sgs w w.heap.size (some ⟨g, 0, none⟩) 2 [⟨[], R1, .slice none 0 0, .slice A1 n1 c1⟩, ⟨[], R2, .slice none 0 0, .slice A2 n2 c2⟩] := by
  refine ⟨rfl, (Reads.of_blk hb (by rfl)).more hb.lt, fun z hz => ?_⟩
  rcases List.mem_cons.1 hz with e | hz
  · subst e
    exact ⟨⟨none, 0, rfl, ⟨rfl, Reads.none_, by simp⟩⟩, ⟨A1, c1, by simp only; rw [h1], by simp only; rw [← h1]; exact hr1.more hB⟩⟩
  · rw [List.mem_singleton] at hz
    subst hz
    exact ⟨⟨none, 0, rfl, ⟨rfl, Reads.none_, by simp⟩⟩, ⟨A2, c2, by simp only; rw [h2], by simp only; rw [← h2]; exact hr2.more hB⟩⟩
theorem rcOne {l : List (Nat → Int)} : ∀ u ∈ cellsR l, u.oneCell' = true := by
  intro u hu
  obtain ⟨x, _, hu⟩ := List.mem_flatMap.1 hu
  simp [recC] at hu
  rcases hu with rfl | rfl | rfl <;> rfl
theorem cellsR_app2 (a b : List (Nat → Int)) : cellsR (a ++ b) = cellsR a ++ cellsR b := by simp [cellsR]
theorem cellsR_take (l : List (Nat → Int)) (k : Nat) : cellsR (l.take k) = (cellsR l).take (k * 3) := by
  induction l generalizing k with
  | nil => simp [cellsR]
  | cons x l ih =>
    cases k with
    | zero => simp [cellsR]
    | succ k =>
      have e : cellsR (x :: l) = recC x ++ cellsR l := rfl
      have e2 : cellsR (x :: l.take k) = recC x ++ cellsR (l.take k) := rfl
      rw [List.take_succ_cons, e, e2, ih, show (k + 1) * 3 = (recC x).length + k * 3 by simp [recC]; omega, List.take_length_add_append]
theorem cellsR_drop (l : List (Nat → Int)) (k : Nat) : cellsR (l.drop k) = (cellsR l).drop (k * 3) := by
  induction l generalizing k with
  | nil => simp [cellsR]
  | cons x l ih =>
    cases k with
    | zero => simp
    | succ k =>
      have e : cellsR (x :: l) = recC x ++ cellsR l := rfl
      rw [List.drop_succ_cons, e, ih, show (k + 1) * 3 = (recC x).length + k * 3 by simp [recC]; omega, List.drop_length_add_append]
theorem rreads_pre {w : World} {B n m : Nat} {A : Option Addr} {l : List (Nat → Int)} (h : Reads w B 3 A n (cellsR l)) (hn : n = l.length) (hm : m ≤ n) : Reads w B 3 A m (cellsR (l.take m)) := by
  refine ⟨by rw [cellsR_length, List.length_take]; omega, fun h0 => ?_⟩
  obtain ⟨b, off, e, hb, hc⟩ := h.2 (by omega)
  refine ⟨b, off, e, hb, fun j u hu => hc j u ?_⟩
  rw [cellsR_take, List.getElem?_take] at hu
  split at hu
  · exact hu
  · cases hu
theorem rreads_from {w : World} {B n c f : Nat} {A : Option Addr} {l : List (Nat → Int)} (h : Reads w B 3 A n (cellsR l)) (hn : n = l.length) (hf : f ≤ n) (hc : n ≤ c) : Reads w B 3 (if c = f then A else A.map (·.add (f * 3))) (n - f) (cellsR (l.drop f)) := by
  refine ⟨by rw [cellsR_length, List.length_drop]; omega, fun h0 => ?_⟩
  rw [if_neg (by omega)]
  obtain ⟨b, off, e, hb, hcc⟩ := h.2 (by omega)
  refine ⟨b, off + f * 3, by rw [e]; simp [Addr.add], hb, fun j u hu => ?_⟩
  rw [cellsR_drop, List.getElem?_drop] at hu
  have := hcc (f * 3 + j) u hu
  rw [← Nat.add_assoc] at this
  exact this
/-- What Segments gives, in one form for both ends. -/
structure SegsK (r : GS) (w : World) (Ao : Option Addr) (no co : Nat) (A' : Option Addr) (n' : Nat) (p : Option Addr) (w' : World) : Prop where
  ex : ∃ M' gt gm, p = some ⟨gt, 0, none⟩ ∧ Nds w' w'.heap.size A' n' M' ∧ fstN M' = r.L ∧ Small M' ∧ CT w' gt gm r.T ∧ w.heap.size ≤ gt ∧ w.heap.size ≤ gm
  own : w'.ownsRow w.heap.size 44 5 (.slice Ao no co) no (cellsLn r.out)
  ok : TOk r.T
def SegsU (r : Int × GS) (w : World) (e : Ending) (w' : World) : Prop :=
  ∃ Ao no co A' n' c' p, e = .returned (.tuple #[.slice Ao no co, .slice A' n' c', .pointer p, .int .i64 r.1]) ∧ (r.1 = 0 → SegsK r.2 w Ao no co A' n' p w') ∧ Fr w.heap.size [] w w'
theorem segs_uni {r : Int × GS} {w : World} {e : Ending} {w' : World} (h : SegsOut r w e w') : SegsU r w e w' := by
  rcases h with ⟨h1, h2, h3⟩ | ⟨h1, Ao, no, co, A', n', c', M', gt, gm, h2, h3, h4, h5, h6, h7, h8, h9, h10, h11⟩
  · exact ⟨none, 0, 0, none, 0, 0, none, h2, fun h => absurd h h1, h3⟩
  · exact ⟨Ao, no, co, A', n', c', _, by rw [h1]; exact h2, fun _ => ⟨⟨M', gt, gm, rfl, h4, h5, h6, h7, h9, h10⟩, h3, h8⟩, h11⟩
theorem SegsK.mono {r : GS} {w0 w : World} {Ao : Option Addr} {no co : Nat} {A' : Option Addr} {n' : Nat} {p : Option Addr} {w' : World} (h : SegsK r w Ao no co A' n' p w') (hle : w0.heap.size ≤ w.heap.size) : SegsK r w0 Ao no co A' n' p w' := by
  obtain ⟨⟨M', gt, gm, h1, h2, h3, h4, h5, h6, h7⟩, o, k⟩ := h
  exact ⟨⟨M', gt, gm, h1, h2, h3, h4, h5, by omega, by omega⟩, ownsRow_base o hle, k⟩
theorem recs_few {R : List (Nat → Int)} {X : GS} (hT : TOk X.T) (ho : X.out = []) : (segsG [([], R)] X).2.out.length ≤ R.length * 26507215 := by
  have hp : planG X [] = (0, X) := by unfold planG; exact if_pos rfl
  have hs : segG X [] R = recsG X R := by unfold segG; rw [hp]; simp
  have h1 := recsG_fewG (R := R) hT
  rw [ho] at h1
  simp only [List.length_nil, Nat.zero_add] at h1
  unfold segsG
  simp only [hs]
  split
  · exact h1
  · unfold segsG
    exact h1
theorem allT_few (T : Pk → CV) : (allT T).length ≤ 512 := by
  unfold allT someE someT
  rw [List.length_map]
  refine Nat.le_trans (List.length_filter_le _ _) ?_
  unfold plcs
  simp
theorem ownsRow_cap {w : World} {base e size n c : Nat} {A : Option Addr} {xs : List Value} (h : w.ownsRow base e size (.slice A n c) n xs) : n ≤ c := by
  obtain ⟨_, _, hx, _, hy, _⟩ := ownsRow_shape h
  injection hx with _ _ hx
  omega
theorem lnlen {w : World} {base n c : Nat} {A : Option Addr} {l : List (Nat → Int)} (h : w.ownsRow base 44 5 (.slice A n c) n (cellsLn l)) : n = l.length := by
  have h1 := h.1
  rw [cellsLn_length] at h1
  omega
end Go.Proofs.YthfibggbipkmfaaGreat
namespace Go.Proofs.YthfibggbipkmfaaGreat
open Go.RowKit Go.Fb
set_option linter.unusedVariables false
end Go.Proofs.YthfibggbipkmfaaGreat
namespace Go.Proofs.YthfibggbipkmfaaGreat
open Go.RowKit Go.Fb
set_option linter.unusedVariables false
theorem kepS_eq (T : Pk → CV) (s : Stp) : kepS T s = keptT s T := by
  unfold kepS stpE
  by_cases h : s.kind < 1 ∨ 5 < s.kind
  · rw [if_pos h, if_neg (by decide)]
    unfold keptT
    rw [if_neg]
    unfold dropsB
    intro hc
    simp at hc
    omega
  · rw [if_neg h]; rfl
theorem kepL_route : ∀ {P : List Stp} {T : Pk → CV}, (∀ s ∈ P, s.kind = 4) → kepL T P = T
  | [], _, _ => rfl
  | s :: P, T, h => by
    have h4 := h s (by simp)
    have : kepS T s = T := by
      rw [kepS_eq]
      unfold keptT dropsB
      simp [h4]
    unfold kepL
    rw [List.foldl_cons, this]
    exact kepL_route fun t ht => h t (List.mem_cons_of_mem _ ht)
theorem idle_all {L : List Nd} {P : List Stp} (h : idleN L P = true) : (applyN L P).1 = 0 ∧ ∀ s ∈ P, s.kind = 4 := by
  unfold idleN at h
  rw [Bool.and_eq_true, decide_eq_true_eq] at h
  refine ⟨h.1, fun s hs => ?_⟩
  have h2 : (P.any fun s => !decide (s.kind = 4)) = false := by simpa using h.2
  rw [List.any_eq_false] at h2
  simpa using h2 s hs
end Go.Proofs.YthfibggbipkmfaaGreat
