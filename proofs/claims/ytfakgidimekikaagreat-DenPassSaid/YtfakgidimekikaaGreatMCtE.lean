/- Texts merged into one, for the number of files a claim may have: CtE, CtF. -/
import Derived.Test.YtfakgidimekikaaGreatMCtD
import Derived.Test.YtfakgidimekikaaGreatMB
import Derived.Test.YtfakgidimekikaaGreatMA
import Derived.Shelf.SlMaps.Clone
namespace Go.Proofs.YtfakgidimekikaaGreat
open Go.RowKit Go.Fb
set_option linter.unusedVariables false
set_option maxRecDepth 100000 in
theorem all1_any (p : Pk) (w : World) : Calls Tryz.prog 57 #[pkV p] w fun e w' => e = .returned (.bool true) ∧ Fr w.heap.size [] w w' := by
  go_enter Tryz.func57, Tryz.ntmps57
  go_wp2_with fail
  go_ret
  exact ⟨rfl, (Fr.refl _ _ _).alloc (Nat.le_refl _) _⟩
set_option maxRecDepth 100000 in
theorem call_any (gt gm : Nat) (T : Pk → CV) (hok : TOk T) (w : World) (h : CT w gt gm T) :
    Calls Tryz.prog 28 #[.pointer (some ⟨gt, 0, none⟩)] w (EntsOut (allT T) w) := by
  have H := Lib.hid (csome_any 57 #[] (fun _ => true) gt gm T hok w h (enters_of Tryz.func57 (by kernel_rfl) rfl) (fun p w' _ => by exact all1_any p w'))
  obtain ⟨l, hl⟩ : ∃ l, l = allT T := ⟨_, rfl⟩
  have H2 := Lib.hid (by rw [hl]; exact H.out : Calls Tryz.prog 56 #[.pointer (some ⟨gt, 0, none⟩), .func (.func 57) #[] #[]] w (EntsOut l w))
  rw [← hl]
  clear H hl h hok
  go_enter Tryz.func28, Tryz.ntmps28
  go_wp2_with fail
  refine H2.out.mono ?_
  rintro e w' ⟨A, c, rfl, h1, h2, h3, h4⟩
  have P := Lib.hid (And.intro h1 (And.intro h2 (And.intro h3 h4)))
  clear h1 h2 h3 h4 H2
  go_wp2_with fail
  go_ret
  exact ⟨A, c, rfl, P.out.1, P.out.2.1, P.out.2.2.1, P.out.2.2.2⟩
/-- Is a place a node's, of one of these groups? -/
def ofB (node : Int) (xs : List Int) (p : Pk) : Bool := decide (p.1 = node) && hasI xs (p.2 % 8)
set_option maxRecDepth 100000 in
set_option maxHeartbeats 2000000 in
theorem of1_any (gn gg : Nat) (node : Int) (Ag : Option Addr) (ng cg B : Nat) (xs : List Int) (p : Pk) (w : World) (h1 : Blk w gn 3 #[.int .i64 node]) (h2 : Blk w gg 46 #[.slice Ag ng cg]) (hn : ng = xs.length) (hm : ng ≤ 1000000) (hr : Reads w B 1 Ag ng (xs.map (Value.int .i64))) (hB : B ≤ w.heap.size) :
    Calls Tryz.prog 125 #[pkV p, .pointer (some ⟨gn, 0, none⟩), .pointer (some ⟨gg, 0, none⟩)] w fun e w' => e = .returned (.bool (ofB node xs p)) ∧ Fr w.heap.size [] w w' := by
  have fa := (Fr.refl w.heap.size [] w).alloc (Nat.le_refl _) (.cells #[.int .i64 p.1, .int .i64 p.2] 107)
  have B1 := Lib.hid (h1.alloc (.cells #[.int .i64 p.1, .int .i64 p.2] 107))
  have B2 := Lib.hid (h2.alloc (.cells #[.int .i64 p.1, .int .i64 p.2] 107))
  have BP := Lib.hid (Blk.new w 107 #[.int .i64 p.1, .int .i64 p.2])
  have HR := Lib.hid (hr.fr fa hB (by simp))
  have FA := Lib.hid fa
  have hs1 : w.heap.size < (w.alloc (.cells #[.int .i64 p.1, .int .i64 p.2] 107)).heap.size := by simp
  obtain ⟨w1, hw1⟩ : ∃ w1, w1 = w.alloc (.cells #[.int .i64 p.1, .int .i64 p.2] 107) := ⟨_, rfl⟩
  rw [← hw1] at B1 B2 BP HR FA hs1
  obtain ⟨g, hg⟩ : ∃ g, g = w.heap.size := ⟨_, rfl⟩
  rw [← hg] at BP
  have HG := Lib.hid hg
  have HW := Lib.hid hw1
  have SF := Lib.hid (fun (W : World) (h : Fr w1.heap.size [] w1 W) => (⟨(BP.out.fr h BP.out.lt (by simp)).cell 0, (BP.out.fr h BP.out.lt (by simp)).cell 1, (B1.out.fr h B1.out.lt (by simp)).cell 0, (B2.out.fr h B2.out.lt (by simp)).cell 0⟩ : W.cell? ⟨g, 0, none⟩ = some (.int .i64 p.1) ∧ W.cell? ⟨g, 1, none⟩ = some (.int .i64 p.2) ∧ W.cell? ⟨gn, 0, none⟩ = some (.int .i64 node) ∧ W.cell? ⟨gg, 0, none⟩ = some (.slice Ag ng cg)))
  have HCN := Lib.hid (fun (W : World) (h : Fr w1.heap.size [] w1 W) => ihas_any (p.2 % 8) Ag cg B ng xs W hn hm (HR.out.fr h (by omega) (by simp)) (by have := h.size; omega))
  have HGR := Lib.hid (group_any p.2)
  obtain ⟨v, hv⟩ : ∃ v, v = ofB node xs p := ⟨_, rfl⟩
  obtain ⟨hb, hhb⟩ : ∃ v, v = hasI xs (p.2 % 8) := ⟨_, rfl⟩
  rw [← hhb] at HCN
  rw [← hv]
  unfold ofB at hv
  rw [← hhb] at hv
  clear h1 h2 hr hhb hg hw1 fa hn
  by_cases he : p.1 = node
  · have hbq : (p.1 == node) = true := by simpa using he
    rw [decide_eq_true he, Bool.true_and] at hv
    subst hv
    have HEE := Lib.hid he
    clear he
    go_enter Tryz.func125, Tryz.ntmps125
    go_upto_region 1 with fail
    rw [← HW.out, ← HG.out]
    have INV := Lib.hid (Fr.refl w1.heap.size [] w1).drew
    go_region_held3 (fun W => W.cell? ⟨g, 0, none⟩ = some (.int .i64 p.1) ∧ W.cell? ⟨g, 1, none⟩ = some (.int .i64 p.2) ∧ W.cell? ⟨gn, 0, none⟩ = some (.int .i64 node) ∧ W.cell? ⟨gg, 0, none⟩ = some (.slice Ag ng cg)) (exact SF.out _ INV.out)
      ((first | (go_at_call 126; refine (HGR.out _).mono ?_; rintro e wv ⟨rfl, rfl⟩) | (go_at_call 74; refine (HCN.out _ INV.out).mono ?_; rintro e wv ⟨rfl, fv⟩; have INV := Lib.hid (INV.out.trans (fv.mono INV.out.size (by simp))); clear fv)))
    all_goals
      go_wp2_with fail
      go_ret
      exact ⟨rfl, FA.out.trans (INV.out.mono FA.out.size (by simp))⟩
  · have hbq : (p.1 == node) = false := by simpa using he
    rw [decide_eq_false he, Bool.false_and] at hv
    subst hv
    clear he
    go_enter Tryz.func125, Tryz.ntmps125
    go_upto_region 1 with fail
    rw [← HW.out, ← HG.out]
    obtain ⟨s0, s1, s2, s3⟩ := SF.out w1 (Fr.refl _ _ _)
    go_quiet (fail)
    go_wp2_with fail
    go_ret
    exact ⟨rfl, FA.out.drewN _⟩
set_option maxRecDepth 100000 in
set_option maxHeartbeats 2000000 in
theorem cof_any (gt gm : Nat) (T : Pk → CV) (hok : TOk T) (node : Int) (Ag : Option Addr) (ng cg B : Nat) (xs : List Int) (w : World) (h : CT w gt gm T) (hn : ng = xs.length) (hm : ng ≤ 1000000) (hr : Reads w B 1 Ag ng (xs.map (Value.int .i64))) (hB : B ≤ w.heap.size) :
    Calls Tryz.prog 85 #[.pointer (some ⟨gt, 0, none⟩), .int .i64 node, .slice Ag ng cg] w (EntsOut (someE (ofB node xs) T) w) := by
  have fa := ((Fr.refl w.heap.size [] w).alloc (Nat.le_refl _) (.cells #[.int .i64 node] 3)).alloc (by simp) (.cells #[.slice Ag ng cg] 46)
  have b1 := (Blk.new w 3 #[.int .i64 node]).alloc (.cells #[.slice Ag ng cg] 46)
  have b2 := Blk.new (w.alloc (.cells #[.int .i64 node] 3)) 46 #[.slice Ag ng cg]
  rw [World.size_alloc] at b2
  have hs1 : w.heap.size + 1 < ((w.alloc (.cells #[.int .i64 node] 3)).alloc (.cells #[.slice Ag ng cg] 46)).heap.size := by simp
  have CT1 := h.keep fa
  have hr1 := hr.fr fa hB (by simp)
  obtain ⟨w1, hw1⟩ : ∃ w1, w1 = (w.alloc (.cells #[.int .i64 node] 3)).alloc (.cells #[.slice Ag ng cg] 46) := ⟨_, rfl⟩
  rw [← hw1] at fa b1 b2 CT1 hr1 hs1
  obtain ⟨l, hl⟩ : ∃ l, l = someE (ofB node xs) T := ⟨_, rfl⟩
  have H := Lib.hid (by
    rw [hl]
    exact csome_any 125 #[.pointer (some ⟨w.heap.size, 0, none⟩), .pointer (some ⟨w.heap.size + 1, 0, none⟩)] (ofB node xs) gt gm T hok w1 CT1 (enters_of Tryz.func125 (by kernel_rfl) rfl) (fun p w' hf => by exact of1_any w.heap.size (w.heap.size + 1) node Ag ng cg B xs p w' (b1.fr hf b1.lt (by simp)) (b2.fr hf b2.lt (by simp)) hn hm (hr1.fr hf (by omega) (by simp)) (by have := hf.size; omega)) : Calls Tryz.prog 56 #[.pointer (some ⟨gt, 0, none⟩), .func (.func 125) #[] #[.pointer (some ⟨w.heap.size, 0, none⟩), .pointer (some ⟨w.heap.size + 1, 0, none⟩)]] w1 (EntsOut l w1))
  have HW := Lib.hid hw1
  have FA := Lib.hid fa
  rw [← hl]
  clear hl h hok b1 b2 CT1 hr hr1 fa hw1 hn
  go_enter Tryz.func85, Tryz.ntmps85
  go_upto_region 1 with fail
  rw [← HW.out]
  go_wp2_with fail
  refine H.out.mono ?_
  rintro e w' ⟨A, c, rfl, h1, h2, h3, h4⟩
  have P := Lib.hid (And.intro h1 (And.intro h2 (And.intro h3 h4)))
  clear h1 h2 h3 h4 H
  go_wp2_with fail
  go_ret
  exact ⟨A, c, rfl, P.out.1, P.out.2.1, fun ad had => by have := P.out.2.2.1 ad had; omega, FA.out.trans (P.out.2.2.2.mono FA.out.size (by simp))⟩
/-- What is left when places are dropped. -/
def dropQ (q : Pk → Bool) (T : Pk → CV) : Pk → CV := fun p => if q p = true then c0 else T p
def delP (T : Pk → CV) (P : List Pk) : Pk → CV := P.foldl (fun T p => updT T p c0) T
theorem delP_snoc (T : Pk → CV) (P : List Pk) (p : Pk) : delP T (P ++ [p]) = updT (delP T P) p c0 := by unfold delP; rw [List.foldl_append]; rfl
theorem delP_at : ∀ (P : List Pk) (T : Pk → CV) (p : Pk), delP T P p = if p ∈ P then c0 else T p
  | [], T, p => by simp [delP]
  | a :: P, T, p => by
    have ih := delP_at P (updT T a c0) p
    have e : delP T (a :: P) = delP (updT T a c0) P := rfl
    rw [e, ih]
    by_cases h : p ∈ P
    · simp [h]
    · by_cases h2 : p = a
      · simp [h2, updT]
      · simp [h, h2, updT]
theorem delP_some {q : Pk → Bool} {T : Pk → CV} (hok : TOk T) : delP T (someT q T) = dropQ q T := by
  funext p
  rw [delP_at]
  unfold dropQ
  by_cases hq : q p = true
  · rw [if_pos hq]
    by_cases hT : T p = c0
    · rw [hT]; simp
    · rw [if_pos (someT_mem.2 ⟨(hok p hT).1, hT, hq⟩)]
  · rw [if_neg hq, if_neg (fun h => hq (someT_mem.1 h).2.2)]
theorem TOk.drop {T : Pk → CV} (h : TOk T) (q : Pk → Bool) : TOk (dropQ q T) := by
  intro p hp
  unfold dropQ at hp ⊢
  by_cases hq : q p = true
  · rw [if_pos hq] at hp; exact absurd rfl hp
  · rw [if_neg hq] at hp ⊢; exact h p hp
/-- What Drop leaves. -/
def DropOut (gt gm : Nat) (T : Pk → CV) (w : World) (e : Ending) (w' : World) : Prop := e = .returned (.tuple #[]) ∧ CT w' gt gm T ∧ Fr w.heap.size [gm] w w'
set_option maxRecDepth 100000 in
set_option maxHeartbeats 4000000 in
theorem cdrop_any (gt gm : Nat) (T : Pk → CV) (hok : TOk T) (node : Int) (Ag : Option Addr) (ng cg B : Nat) (xs : List Int) (w : World) (h : CT w gt gm T) (hn : ng = xs.length) (hm : ng ≤ 1000000) (hr : Reads w B 1 Ag ng (xs.map (Value.int .i64))) (hB : B ≤ w.heap.size) :
    Calls Tryz.prog 58 #[.pointer (some ⟨gt, 0, none⟩), .int .i64 node, .slice Ag ng cg] w (DropOut gt gm (dropQ (ofB node xs) T) w) := by
  have H := Lib.hid (cof_any gt gm T hok node Ag ng cg B xs w h hn hm hr hB)
  obtain ⟨P, hP⟩ : ∃ P, P = someT (ofB node xs) T := ⟨_, rfl⟩
  have HEND := Lib.hid (show delP T P = dropQ (ofB node xs) T by rw [hP]; exact delP_some hok)
  have HPN := Lib.hid (show ∀ p ∈ P, p.1 = node from fun p hp => by
    rw [hP] at hp
    have := (someT_mem.1 hp).2.2
    unfold ofB at this
    rw [Bool.and_eq_true] at this
    exact of_decide_eq_true this.1)
  have hlen : P.length ≤ 512 := by
    rw [hP]
    unfold someT
    refine Nat.le_trans (List.length_filter_le _ _) ?_
    unfold plcs
    simp
  have HL := Lib.hid (show someE (ofB node xs) T = P.map fun p => entF p (T p) by rw [hP]; rfl)
  obtain ⟨l, hl⟩ : ∃ l, l = someE (ofB node xs) T := ⟨_, rfl⟩
  rw [← hl] at H HL
  obtain ⟨TD, hTD⟩ : ∃ D, D = dropQ (ofB node xs) T := ⟨_, rfl⟩
  rw [← hTD] at HEND ⊢
  have HC := Lib.hid h
  have hltm := h.mp.lt
  have hltt := h.bk.lt
  have hll : l.length = P.length := by rw [HL.out, List.length_map]
  obtain ⟨n, hnl⟩ : ∃ n, n = l.length := ⟨_, rfl⟩
  have HN := Lib.hid hnl
  have hn512 : n ≤ 512 := by omega
  clear h hP hl hTD hr hn hok
  unfold EntsOut at H
  rw [← hnl] at H
  clear hnl hll
  go_enter Tryz.func58, Tryz.ntmps58
  go_wp2_with fail
  refine H.out.mono ?_
  rintro e w1 ⟨A, c, rfl, h1, h2, h3, h4⟩
  have HR := Lib.hid h1
  have HAP := Lib.hid (show 0 < n → ∀ ad, A = some ad → ad.block ∉ [gm] from fun _ ad had => by have := h3 ad had; simp; omega)
  have F1 := Lib.hid h4
  have HC1 := Lib.hid (HC.out.keep h4)
  have hs1 := h4.size
  clear h1 h3 h4 H HC
  go_wp2_with fail
  go_loopg [7, 13] n (fun g s7 s13 wr => ∃ k : Nat, k ≤ n ∧ g = n - k ∧ s13 = .int .i64 k ∧ (s7 = undef ∨ ∃ a, s7 = .pointer a) ∧ RowKit.Hid (CT wr gt gm (delP T (P.take k))) ∧ RowKit.Hid (Fr w1.heap.size [gm] w1 wr))
  case atStart => exact ⟨0, Nat.zero_le _, rfl, rfl, .inl rfl, HC1, Lib.hid (Fr.refl _ _ _)⟩
  case round =>
    obtain ⟨k, hk, rfl, rfl, hs7, C, F⟩ := hrel
    by_cases hkn : k < n
    · have hki : (k : Int) < (n : Int) := by omega
      have hkP : k < P.length := by have := HN.out; rw [HL.out, List.length_map] at this; omega
      obtain ⟨p, hp⟩ : ∃ p, P[k]? = some p := ⟨_, List.getElem?_eq_getElem hkP⟩
      have hx : l[k]? = some (entF p (T p)) := by rw [HL.out, List.getElem?_map, hp]; rfl
      obtain ⟨t, ht⟩ : ∃ t, t = T p := ⟨_, rfl⟩
      rw [← ht] at hx
      obtain ⟨b, off, rfl, hb, hc⟩ := reads_ent (by rw [← HN.out]; exact HR.out.frL F.out (Nat.le_refl _) HAP.out) hx
      have p0 : wr.cell? ⟨b, off + (k * 6 + 0), none⟩ = some (.int .i64 p.1) := hc 0 (by omega)
      have p1 : wr.cell? ⟨b, off + (k * 6 + 1), none⟩ = some (.int .i64 p.2) := hc 1 (by omega)
      have p2 : wr.cell? ⟨b, off + (k * 6 + 2), none⟩ = some (.int .i64 t.1) := hc 2 (by omega)
      have p3 : wr.cell? ⟨b, off + (k * 6 + 3), none⟩ = some (.int .i64 t.2.1) := hc 3 (by omega)
      have p4 : wr.cell? ⟨b, off + (k * 6 + 4), none⟩ = some (.int .i64 t.2.2.1) := hc 4 (by omega)
      have p5 : wr.cell? ⟨b, off + (k * 6 + 5), none⟩ = some (.int .i64 t.2.2.2) := hc 5 (by omega)
      simp only [Nat.add_zero, ← Nat.add_assoc] at p0 p1 p2 p3 p4 p5
      have HTK := Lib.hid (show delP T (P.take (k + 1)) = updT (delP T (P.take k)) p c0 by rw [List.take_add_one, hp]; exact delP_snoc _ _ _)
      have hpn := HPN.out p (List.mem_of_getElem? hp)
      have HPE := Lib.hid hpn
      clear hpn
      clear hc hx hp ht
      have BX := Lib.hid (Blk.new wr 97 #[.int .i64 p.1, .int .i64 p.2, .int .i64 t.1, .int .i64 t.2.1, .int .i64 t.2.2.1, .int .i64 t.2.2.2])
      have fx := (Fr.refl wr.heap.size [] wr).alloc (Nat.le_refl _) (.cells #[.int .i64 p.1, .int .i64 p.2, .int .i64 t.1, .int .i64 t.2.1, .int .i64 t.2.2.1, .int .i64 t.2.2.2] 97)
      have C1 := Lib.hid (C.out.keep fx)
      have F2 := Lib.hid (F.out.trans (fx.mono (B' := w1.heap.size) (L' := [gm]) F.out.size (by simp)))
      clear fx
      go_upto_region 3 with fail
      generalize wr.alloc _ = wa at *
      generalize wr.heap.size = ga at *
      obtain ⟨w3, hdel, hm3, f3, hs3⟩ := (C1.out.mp.fr (Fr.refl wa.heap.size [] wa).drew C1.out.mp.lt (by simp)).del p
      have x1 := BX.out.cell 1
      have t0 := C1.out.bk.cell 0
      simp at x1 t0
      have x1d : wa.drew.cell? ⟨ga, 1, none⟩ = some (.int .i64 p.2) := x1
      have t0d : wa.drew.cell? ⟨gt, 0, none⟩ = some (.map (some gm)) := t0
      have HM3 := Lib.hid hm3
      have F3 := Lib.hid (F2.out.trans (((Fr.refl wa.heap.size [gm] wa).drew.trans f3).mono (B' := w1.heap.size) (L' := [gm]) F2.out.size (by simp)))
      have C3 := Lib.hid (show CT w3 gt gm (updT (delP T (P.take k)) p c0) from ⟨C1.out.bk.drew.fr f3 C1.out.bk.lt (by simp only [List.mem_singleton]; exact fun e => C1.out.mp.ne C1.out.bk e.symm), hm3⟩)
      have hdel2 : ∀ ty, (Builtin.delete_ #[99, 107] ty #[.map (some gm), .agg #[.int .i64 node, .int .i64 p.2]]).run Tryz.prog wa.drew = .ok (.tuple #[]) w3 := fun ty => by rw [← HPE.out]; exact hdel ty
      clear hm3 f3 hs3 hdel p0 p1 p2 p3 p4 p5 x1 t0
      have t0w : wa.cell? ⟨gt, 0, none⟩ = some (.map (some gm)) := t0d
      have x1w : wa.cell? ⟨ga, 1, none⟩ = some (.int .i64 p.2) := x1d
      go_region_with fail
      all_goals
        go_wp2_with fail
        go_roundg (n - (k + 1))
        case measure => omega
        case rel => exact ⟨k + 1, by omega, rfl, by go_num, .inr ⟨_, rfl⟩, by rw [HTK.out]; exact C3, F3⟩
    · obtain rfl : n = k := by omega
      have hC := C.out
      rw [List.take_of_length_le (by have := HN.out; rw [HL.out, List.length_map] at this; omega), HEND.out] at hC
      have HC9 := Lib.hid hC
      clear hC
      go_wp2_with fail
      exact bodyPost_ret (results_none rfl _ _ _) rfl ⟨rfl, HC9.out, (F1.out.mono (by simp) (by simp)).trans (F.out.mono hs1 (by simp))⟩
end Go.Proofs.YtfakgidimekikaaGreat
namespace Go.Proofs.YtfakgidimekikaaGreat
open Go.RowKit Go.Fb Go.Maps
set_option linter.unusedVariables false
set_option maxRecDepth 100000 in
set_option maxHeartbeats 2000000 in
theorem mclone_any (b : Nat) (es : Array MapEntry) (clock : Nat) (w : World) (hb : w.heap[b]? = some (.map es clock)) :
    Calls Tryz.prog 67 #[.map (some b)] w fun e w' => e = .returned (.map (some w.heap.size)) ∧ w' = w.alloc (.map es clock) := by
  have hq := fun w => run_eql_map_nil_sl (P := Tryz.prog) w 99 _ _ (some b) Tryz.underlying99
  go_enter Tryz.func67, Tryz.ntmps67
  go_wp2
  rw [run_callFunc_extern Tryz.func95 (by kernel_rfl) (by kernel_rfl) (by kernel_rfl) (e := Extern.MapsClone.clone) (by kernel_rfl), run_maps_clone_sl w 99 hb]
  simp only [Result.andThen]
  rw [Oper.upon_value]
  go_wp2
  rw [run_typeAssert_map_sl _ 99 20 _ _ _ Tryz.underlying99]
  simp only [Result.andThen]
  rw [Oper.upon_value]
  go_wp2
  go_ret
  exact ⟨rfl, rfl⟩
set_option maxRecDepth 100000 in
set_option maxHeartbeats 2000000 in
theorem ccopy_any (gt gm : Nat) (T : Pk → CV) (w : World) (h : CT w gt gm T) :
    Calls Tryz.prog 35 #[.pointer (some ⟨gt, 0, none⟩)] w fun e w' => e = .returned (.pointer (some ⟨w.heap.size + 1, 0, none⟩)) ∧ CT w' (w.heap.size + 1) w.heap.size T ∧ Fr w.heap.size [] w w' := by
  obtain ⟨K, es, clock, hb, he⟩ := h.mp
  have HM := Lib.hid (mclone_any gm es clock w hb)
  have t0 := h.bk.cell 0
  simp at t0
  have K1 : KMap (w.alloc (.map es clock)) w.heap.size T := ⟨K, es, clock, heap_alloc_new w _, he⟩
  have HK := Lib.hid (K1.fr ((Fr.refl (w.heap.size + 1) [] (w.alloc (.map es clock))).alloc (by simp) (.cells #[.map (some w.heap.size)] 101)) (by omega) (by simp))
  have B0 := Blk.new (w.alloc (.map es clock)) 101 #[.map (some w.heap.size)]
  rw [World.size_alloc] at B0
  have B0 := Lib.hid B0
  have F0 := Lib.hid (((Fr.refl w.heap.size [] w).alloc (Nat.le_refl _) (.map es clock)).alloc (by simp) (.cells #[.map (some w.heap.size)] 101))
  clear h hb he K1
  go_enter Tryz.func35, Tryz.ntmps35
  go_wp2_with fail
  refine HM.out.mono ?_
  rintro e w' ⟨rfl, rfl⟩
  go_wp2_with fail
  go_ret
  exact ⟨rfl, ⟨B0.out, HK.out⟩, F0.out⟩
end Go.Proofs.YtfakgidimekikaaGreat
