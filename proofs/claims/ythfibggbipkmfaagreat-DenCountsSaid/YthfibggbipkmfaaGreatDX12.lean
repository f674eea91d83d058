/- Texts merged into one, for the number of files a claim may have: NdK, NdL, NdM, RfA, RfB, GrS, GrV, GrW, SameA, SameB, SameC, SameD, SameE, GrT, RfC, GrU, PlP, StA, NdDel, WkA, WkB, WkC, PlQ. -/
import Derived.Test.YthfibggbipkmfaaGreatDX5
import Derived.Test.YthfibggbipkmfaaGreatDX6
import Derived.Test.YthfibggbipkmfaaGreatDX9
import Derived.Test.YthfibggbipkmfaaGreatDX10
import Derived.Test.YthfibggbipkmfaaGreatDX11
import Derived.BigRegion
import Derived.Deep.DeepCutAuto
import Derived.Deep.RegionHeld3
import Derived.Deep.RegionLaw
import Derived.Laws.EntriesVeiled
import Derived.Laws.StructEq
import Derived.ScopeJumps
import Derived.StillTailTactics
import Derived.WalkMore
namespace Go.Proofs.YthfibggbipkmfaaGreat
open Go.RowKit Go.Fb
abbrev fnStands (gO : Nat) : Value := .func (.func 71) #[] #[.pointer (some ⟨gO, 0, none⟩)]
set_option maxRecDepth 100000 in
theorem stands_any (x : Int) (gO : Nat) (A : Option Addr) (q c B : Nat) (out : List Int) (w : World) (hb : Blk w gO 45 #[.slice A q c]) (hn : q = out.length) (hm : q ≤ 1000000) (hr : Reads w B 1 A q (out.map (Value.int .i64))) (hB : B ≤ w.heap.size) :
    Calls Tryz.prog 71 #[.int .i64 x, .pointer (some ⟨gO, 0, none⟩)] w fun e w' => e = .returned (.bool (hasI out x)) ∧ Fr w.heap.size [] w w' := by
  have HC := Lib.hid (ihas_any x A c B q out w hn hm hr hB)
  have c0 := hb.cell 0
  simp at c0
  clear hb hn hr
  go_enter Tryz.func71, Tryz.ntmps71
  go_wp2_with fail
  refine HC.out.mono ?_
  rintro e w1 ⟨rfl, f1⟩
  have F1 := Lib.hid f1
  clear f1
  go_wp2_with fail
  go_ret
  exact ⟨rfl, F1.out⟩
set_option maxRecDepth 100000 in
theorem nstands_any (x : Int) (gS gO : Nat) (A : Option Addr) (q c B : Nat) (out : List Int) (w : World) (hs : Blk w gS 132 #[fnStands gO]) (hb : Blk w gO 45 #[.slice A q c]) (hn : q = out.length) (hm : q ≤ 1000000) (hr : Reads w B 1 A q (out.map (Value.int .i64))) (hB : B ≤ w.heap.size) :
    Calls Tryz.prog 72 #[.int .i64 x, .pointer (some ⟨gS, 0, none⟩)] w fun e w' => e = .returned (.bool (!hasI out x)) ∧ Fr w.heap.size [] w w' := by
  have HC := Lib.hid (stands_any x gO A q c B out w hb hn hm hr hB)
  have c0 := hs.cell 0
  simp at c0
  have hent := enters_of Tryz.func71 (by kernel_rfl) rfl
  clear hb hn hr hs
  go_enter Tryz.func72, Tryz.ntmps72
  go_wp2_with fail
  refine HC.out.mono ?_
  rintro e w1 ⟨rfl, f1⟩
  have F1 := Lib.hid f1
  clear f1
  go_wp2_with fail
  go_ret
  exact ⟨rfl, F1.out⟩
/-- A row of nodes of its own. -/
structure Nmd (base : Nat) (w : World) (A : Option Addr) (n c : Nat) (M : List Ndm) : Prop where
  num : n = M.length
  own : w.ownsRow base 49 13 (.slice A n c) n (cellsN M)
  inn : NmI base (Value.ownBlock (.slice A n c)) w M
theorem fresh_notin {base : Nat} {v : Value} {L : List Nat} (h : Fresh base v) (hL : ∀ k ∈ L, k < base) {A : Option Addr} {n c : Nat} (hv : v = .slice A n c) (hn : 0 < n) : ∀ ad, A = some ad → ad.block ∉ L := by
  intro ad ha hm
  have := h A n c hv hn ad ha
  have := hL _ hm
  omega
theorem Nmd.frd {base : Nat} {w w' : World} {A : Option Addr} {n c : Nat} {M : List Ndm} {L : List Nat} (h : Nmd base w A n c M) (hf : Fr w.heap.size L w w') (hL : ∀ k ∈ L, k < base) : Nmd base w' A n c M :=
  ⟨h.num, ownsRow_fr h.own hf (fun q hq => ⟨(h.own.lt q hq).2, fun hm => by have := (h.own.lt q hq).1; have := hL _ hm; omega⟩), fun m hm => by
    obtain ⟨⟨⟨A1, c1, h1, h2⟩, ⟨A2, c2, h3, h4⟩⟩, o1, o2, f1, f2, th⟩ := h.inn m hm
    exact ⟨⟨⟨A1, c1, h1, (h2.frL hf (Nat.le_refl _) (fresh_notin f1 hL h1)).more hf.size⟩, ⟨A2, c2, h3, (h4.frL hf (Nat.le_refl _) (fresh_notin f2 hL h3)).more hf.size⟩⟩, o1, o2, f1, f2, th.frL hf (fun A n c hv hn => fresh_notin f2 hL hv hn)⟩⟩
theorem Nmd.nds {base : Nat} {w w' : World} {A : Option Addr} {n c : Nat} {M : List Ndm} {L : List Nat} (h : Nmd base w A n c M) (hf : Fr w.heap.size L w w') (hL : ∀ k ∈ L, k < base) : Nds w' w.heap.size A n M :=
  ⟨h.num, (Reads.of_own h.own).frL hf (Nat.le_refl _) (fun hn ad ha hm => by
    obtain ⟨g, cap, hv, hbg, hlt⟩ := h.own.form hn
    injection hv with hv
    rw [ha] at hv
    injection hv with hv
    subst hv
    have := hL _ hm
    simp only at this
    omega), fun m hm => by
    obtain ⟨⟨⟨A1, c1, h1, h2⟩, ⟨A2, c2, h3, h4⟩⟩, o1, o2, f1, f2, th⟩ := h.inn m hm
    exact ⟨⟨A1, c1, h1, h2.frL hf (Nat.le_refl _) (fresh_notin f1 hL h1)⟩, ⟨A2, c2, h3, h4.frL hf (Nat.le_refl _) (fresh_notin f2 hL h3)⟩⟩⟩
theorem small_norm {M M1 : List Ndm} (hs : Small M) (h : fstN M1 = normL (fstN M)) : Small M1 := by
  refine ⟨?_, fun m hm => ?_⟩
  · have := congrArg List.length h
    rw [normL_len] at this
    simp [fstN] at this
    rw [this]
    exact hs.1
  · have h1 : m.1 ∈ fstN M1 := List.mem_map.2 ⟨m, hm, rfl⟩
    rw [h, normL_mem] at h1
    obtain ⟨m', hm', e⟩ := List.mem_map.1 h1
    rw [← e]
    exact hs.2 m' hm'
theorem find_at {α : Type} {p : α → Bool} : ∀ {l : List α} {i : Nat} {a : α}, l[i]? = some a → p a = true → (∀ j y, j < i → l[j]? = some y → p y = false) → l.find? p = some a
  | [], _, _, h, _, _ => by simp at h
  | x :: l, 0, a, h, hp, _ => by
    simp at h
    subst h
    rw [List.find?_cons, hp]
  | x :: l, i + 1, a, h, hp, hb => by
    rw [List.find?_cons, hb 0 x (by omega) rfl]
    exact find_at (l := l) (i := i) (by simpa using h) hp fun j y hj hy => hb (j + 1) y (by omega) (by simpa using hy)
theorem find_no {α : Type} {p : α → Bool} {l : List α} (h : ∀ (j : Nat) (y : α), l[j]? = some y → p y = false) : l.find? p = none := by
  rw [List.find?_eq_none]
  intro x hx
  obtain ⟨j, hj⟩ := List.getElem?_of_mem hx
  simp [h j x hj]
/-- What holds at the label. -/
structure SortJ (gO gS : Nat) (L : List Nd) (w w2 wr : World) (A1 : Option Addr) (n1 c1 : Nat) (M1 : List Ndm) (A' : Option Addr) (k c' : Nat) : Prop where
  nmd : Nmd (gS + 1) w2 A1 n1 c1 M1
  fst : fstN M1 = normL L
  sml : Small M1
  fr2 : Fr w.heap.size [] w w2
  blS : Blk w2 gS 132 #[fnStands gO]
  fr : Fr w2.heap.size [gO] w2 wr
  box : Blk wr gO 45 #[.slice A' k c']
  own : wr.ownsRow w2.heap.size 3 1 (.slice A' k c') k ((sortF (normL L) k).map (Value.int .i64))
  len : k = (sortF (normL L) k).length
theorem SortJ.mv {gO gS : Nat} {L : List Nd} {w w2 wr wi : World} {A1 : Option Addr} {n1 c1 : Nat} {M1 : List Ndm} {A' : Option Addr} {k c' : Nat} (h : SortJ gO gS L w w2 wr A1 n1 c1 M1 A' k c') (hf : Fr wr.heap.size [] wr wi) : SortJ gO gS L w w2 wi A1 n1 c1 M1 A' k c' :=
  ⟨h.nmd, h.fst, h.sml, h.fr2, h.blS, h.fr.trans (hf.mono (B' := w2.heap.size) (L' := [gO]) h.fr.size (by simp)), h.box.fr hf h.box.lt (by simp), ownsRow_fr h.own hf (fun q hq => ⟨(h.own.lt q hq).2, by simp⟩), h.len⟩
theorem SortJ.lt {gO gS : Nat} {L : List Nd} {w w2 wr : World} {A1 : Option Addr} {n1 c1 : Nat} {M1 : List Ndm} {A' : Option Addr} {k c' : Nat} (h : SortJ gO gS L w w2 wr A1 n1 c1 M1 A' k c') (hgo : gO < gS) : Nds wr w2.heap.size A1 n1 M1 :=
  h.nmd.nds h.fr (by simp; omega)
theorem SortJ.num {gO gS : Nat} {L : List Nd} {w w2 wr : World} {A1 : Option Addr} {n1 c1 : Nat} {M1 : List Ndm} {A' : Option Addr} {k c' : Nat} (h : SortJ gO gS L w w2 wr A1 n1 c1 M1 A' k c') : n1 = L.length := by
  have := congrArg List.length h.fst
  rw [normL_len] at this
  simp [fstN] at this
  rw [← this]
  exact h.nmd.num
theorem SortJ.kle {gO gS : Nat} {L : List Nd} {w w2 wr : World} {A1 : Option Addr} {n1 c1 : Nat} {M1 : List Ndm} {A' : Option Addr} {k c' : Nat} (h : SortJ gO gS L w w2 wr A1 n1 c1 M1 A' k c') : k ≤ L.length := by
  have := (sortF_ord (normL L) k).le
  rw [← h.len, normL_len] at this
  exact this
theorem SortJ.bs {gO gS : Nat} {L : List Nd} {w w2 wr : World} {A1 : Option Addr} {n1 c1 : Nat} {M1 : List Ndm} {A' : Option Addr} {k c' : Nat} (h : SortJ gO gS L w w2 wr A1 n1 c1 M1 A' k c') (hgo : gO < gS) : Blk wr gS 132 #[fnStands gO] :=
  h.blS.fr h.fr h.blS.lt (by simp; omega)
theorem SortJ.ready {gO gS : Nat} {L : List Nd} {w w2 wr : World} {A1 : Option Addr} {n1 c1 : Nat} {M1 : List Ndm} {A' : Option Addr} {k c' : Nat} (h : SortJ gO gS L w w2 wr A1 n1 c1 M1 A' k c') {i : Nat} {m : Ndm} (hm : M1[i]? = some m) (hr : readyB (sortF (normL L) k) m.1 = true)
    (hb : ∀ (j : Nat) (y : Ndm), j < i → M1[j]? = some y → readyB (sortF (normL L) k) y.1 = false) : (normL L).find? (readyB (sortF (normL L) k)) = some m.1 := by
  refine find_at (i := i) ?_ hr fun j y hj hy => ?_
  · rw [← h.fst]; simp [fstN, hm]
  · rw [← h.fst] at hy
    simp only [fstN, List.getElem?_map, Option.map_eq_some_iff] at hy
    obtain ⟨z, hz, rfl⟩ := hy
    exact hb j z hj hz
theorem SortJ.none_ {gO gS : Nat} {L : List Nd} {w w2 wr : World} {A1 : Option Addr} {n1 c1 : Nat} {M1 : List Ndm} {A' : Option Addr} {k c' : Nat} (h : SortJ gO gS L w w2 wr A1 n1 c1 M1 A' k c')
    (hb : ∀ (j : Nat) (y : Ndm), j < n1 → M1[j]? = some y → readyB (sortF (normL L) k) y.1 = false) : sortN L = sortF (normL L) k := by
  have hf : (normL L).find? (readyB (sortF (normL L) k)) = none := by
    refine find_no fun j y hy => ?_
    rw [← h.fst] at hy
    simp only [fstN, List.getElem?_map, Option.map_eq_some_iff] at hy
    obtain ⟨z, hz, rfl⟩ := hy
    refine hb j z ?_ hz
    rw [h.nmd.num]
    exact (List.getElem?_eq_some_iff.1 hz).1
  have := sortF_end (L := normL L) (k := k) (by rw [normL_len]; exact h.kle) hf
  unfold sortN
  rw [← normL_len L, this]
theorem SortJ.more {gO gS : Nat} {L : List Nd} {w w2 w3 w4 : World} {A1 : Option Addr} {n1 c1 : Nat} {M1 : List Ndm} {A' A3 : Option Addr} {k c' c3 : Nat} {x : Nd} {news : Array Value} (h : SortJ gO gS L w w2 w3 A1 n1 c1 M1 A' k c') (hf : (normL L).find? (readyB (sortF (normL L) k)) = some x)
    (ho : w4.ownsRow w2.heap.size 3 1 (.slice A3 (k + 1) c3) (k + 1) ((sortF (normL L) k).map (Value.int .i64) ++ [Value.int .i64 x.id])) (hg : (w3.alloc (.cells news 3)).grownBy w4 (Value.ownBlock (.slice A' k c'))) : SortJ gO gS L w w2 (w4.setCell ⟨gO, 0, none⟩ (.slice A3 (k + 1) c3)) A1 n1 c1 M1 A3 (k + 1) c3 := by
  have hb4 : Blk w4 gO 45 #[.slice A' k c'] := (h.box.alloc _).grown hg (h.box.ne_own h.own (by decide))
  have hss := sortF_some hf
  refine ⟨h.nmd, h.fst, h.sml, h.fr2, h.blS, ?_, by simpa using hb4.set_ 0 (.slice A3 (k + 1) c3), ?_, ?_⟩
  · have f4 := Fr.of_app hg h.own h.fr.size
    exact (h.fr.trans (f4.mono (Nat.le_refl _) (by simp))).setCell (.inr (by simp)) _
  · rw [hss, List.map_append]
    exact ownsRow_setCell_other ho (fun e => hb4.ne_own ho (by decide) e.symm) _
  · rw [hss, List.length_append, ← h.len]; rfl
def sortMu (gO : Nat) (w : World) : Nat := match w.cell? ⟨gO, 0, none⟩ with
  | some (.slice _ k _) => 21 - k
  | _ => 0
theorem sortMu_lt {gO : Nat} {w w' : World} {A A' : Option Addr} {k c c' : Nat} (h : Blk w gO 45 #[.slice A k c]) (h' : Blk w' gO 45 #[.slice A' (k + 1) c']) (hk : k ≤ 20) : sortMu gO w' < sortMu gO w := by
  have c0 := h.cell 0
  have c1 := h'.cell 0
  unfold sortMu
  rw [c0, c1]
  simp
  omega
set_option maxRecDepth 100000 in
set_option maxHeartbeats 4000000 in
theorem sort_any (A : Option Addr) (c B n : Nat) (M : List Ndm) (w : World) (h : Nds w B A n M) (hB : B ≤ w.heap.size) (hs : Small M) (hn : n ≤ 20) :
    Calls Tryz.prog 38 #[.slice A n c] w (IntsOut (sortN (fstN M)) w) := by
  have BO := Lib.hid ((Blk.new w 45 #[.slice none 0 0]).alloc (.cells #[fnStands w.heap.size] 132))
  have BS0 := Blk.new (w.alloc (.cells #[.slice none 0 0] 45)) 132 #[fnStands w.heap.size]
  rw [World.size_alloc] at BS0
  have BS := Lib.hid BS0
  have F1 := Lib.hid (((Fr.refl w.heap.size [] w).alloc (Nat.le_refl _) (.cells #[.slice none 0 0] 45)).alloc (by simp) (.cells #[fnStands w.heap.size] 132))
  have HN := Lib.hid (norm_any A c B n M ((w.alloc (.cells #[.slice none 0 0] 45)).alloc (.cells #[fnStands w.heap.size] 132)) (h.frw F1.out hB (by simp)) (Nat.le_trans hB F1.out.size) hs hn)
  have hz1 : ((w.alloc (.cells #[.slice none 0 0] 45)).alloc (.cells #[fnStands w.heap.size] 132)).heap.size = w.heap.size + 1 + 1 := by simp
  have HZ1 := Lib.hid hz1
  have HNUM := Lib.hid h.num
  have HSM := Lib.hid hs
  obtain ⟨L, hL⟩ : ∃ L, L = fstN M := ⟨_, rfl⟩
  have HLM := Lib.hid hL
  rw [← hL] at HN ⊢
  have hnl : L.length = n := by rw [hL, h.num]; simp [fstN]
  have HNL := Lib.hid hnl
  clear BS0 h hs hL hz1 hnl
  go_enter Tryz.func38, Tryz.ntmps38
  go_wp2_with fail
  refine wp_scope_jumps 0 (fun a' w' => ∃ (w2 : World) (A1 : Option Addr) (n1 c1 : Nat) (M1 : List Ndm) (A' : Option Addr) (k c' : Nat) (u1 u5 u6 u7 u8 u9 u10 u11 u12 u13 u14 u15 u16 u17 u18 u19 u20 u21 u22 u23 u24 u25 u26 u27 u28 u29 u30 u31 u32 u33 u34 : Value), a' = { tmps := #[.slice A1 n1 c1, u1, .slice none 0 0, .pointer (some ⟨w.heap.size, 0, none⟩), .pointer (some ⟨w.heap.size + 1, 0, none⟩), u5, u6, u7, u8, u9, u10, u11, u12, u13, u14, u15, u16, u17, u18, u19, u20, u21, u22, u23, u24, u25, u26, u27, u28, u29, u30, u31, u32, u33, u34], defers := [] } ∧ RowKit.Hid (SortJ w.heap.size (w.heap.size + 1) L w w2 w' A1 n1 c1 M1 A' k c')) (fun _ w' => sortMu w.heap.size w') rfl ?first ?pass
  case' first =>
    go_wp2_with fail
    generalize (w.alloc _).alloc _ = w1 at *
    refine HN.out.mono ?_
    rintro e w2 ⟨A1, c1, n1, M1, hn1, rfl, ho, hi, hf1, f2⟩
    rw [HZ1.out] at ho hi f2
    have HJ := Lib.hid (show SortJ w.heap.size (w.heap.size + 1) L w w2 w2 A1 n1 c1 M1 none 0 0 from ⟨⟨hn1, ho, hi⟩, hf1, small_norm HSM.out (by rw [hf1, HLM.out]), F1.out.trans (f2.mono (B' := w.heap.size) (L' := []) (by omega) (by simp)), BS.out.fr f2 (by omega) (by simp), Fr.refl _ _ _, BO.out.fr f2 (by omega) (by simp), World.ownsRow_nil _ _ _ _, rfl⟩)
    clear hn1 ho hi hf1 f2 HN BO BS F1 HZ1
    obtain ⟨wq, hwq⟩ : ∃ wq : World, wq = w2 := ⟨_, rfl⟩
    obtain ⟨A', k, c', HJ⟩ : ∃ (A' : Option Addr) (k c' : Nat), RowKit.Hid (SortJ w.heap.size (w.heap.size + 1) L w w2 wq A1 n1 c1 M1 A' k c') := ⟨none, 0, 0, by rw [hwq]; exact HJ⟩
    rw [← hwq]
    clear hwq
    go_wp2_with fail
    go_step3
    go_wp2_with fail
  case' pass =>
    rintro a wq ⟨w2, A1, n1, c1, M1, A', k, c', u1, u5, u6, u7, u8, u9, u10, u11, u12, u13, u14, u15, u16, u17, u18, u19, u20, u21, u22, u23, u24, u25, u26, u27, u28, u29, u30, u31, u32, u33, u34, rfl, HJ⟩
    clear HN BO BS F1 HZ1
    go_wp2_with fail
  all_goals
    have hn1 : n1 ≤ 20 := by rw [HJ.out.num, HNL.out]; exact hn
    have hk20 : k ≤ 20 := by have h1 := HJ.out.kle; have h2 := HNL.out; omega
    go_loopg [12] n1 (fun g s12 wr => ∃ i : Nat, i ≤ n1 ∧ g = n1 - i ∧ s12 = .int .i64 i ∧ RowKit.Hid (∀ (j : Nat) (y : Ndm), j < i → M1[j]? = some y → readyB (sortF (normL L) k) y.1 = false) ∧ RowKit.Hid (Fr wq.heap.size [] wq wr))
    case atStart => exact ⟨0, Nat.zero_le _, rfl, rfl, Lib.hid (fun j y h => absurd h (Nat.not_lt_zero _)), Lib.hid (Fr.refl _ _ _)⟩
    case round =>
      obtain ⟨i, hi, rfl, rfl, HB, HF⟩ := hrel
      have HJ := Lib.hid (HJ.out.mv HF.out)
      by_cases hin1 : i < n1
      · have hki : (i : Int) < (n1 : Int) := by omega
        have hk0 : (0 : Int) ≤ (i : Int) := by omega
        obtain ⟨m, hx⟩ : ∃ m, M1[i]? = some m := ⟨_, List.getElem?_eq_getElem (by rw [← HJ.out.nmd.num]; exact hin1)⟩
        have HX := Lib.hid hx
        have HND := HJ.out.lt (by omega)
        have hlt2 : w2.heap.size ≤ wr.heap.size := HJ.out.fr.size
        obtain ⟨b1, o1, rfl, hb1, hc1⟩ := HND.get hx
        have hin := HND.inn m (List.mem_of_getElem? hx)
        have hsm := HJ.out.sml.2 m (List.mem_of_getElem? hx)
        obtain ⟨x, sf, sp⟩ := m
        have fa := (Fr.refl wr.heap.size [] wr).alloc (Nat.le_refl _) (.cells (ndA x sf sp) 49)
        have BX := Lib.hid (Blk.new wr 49 (ndA x sf sp))
        have HJa := Lib.hid (HJ.out.mv fa)
        have HFa := Lib.hid (HF.out.trans (fa.mono (B' := wq.heap.size) (L' := []) HF.out.size (by simp)))
        obtain ⟨⟨Af, cf, hf1, hf2⟩, ⟨Ap, cp, hp1, _⟩⟩ := hin
        simp only at hf1 hp1 hsm hf2
        have RF := Lib.hid (hf2.fr fa hlt2 (by simp))
        subst hf1
        subst hp1
        obtain ⟨g0, g1, g2, g3, g4, g5, g6, g7, g8, g9, g10, g11, g12⟩ := ndL_get (x, .slice Af x.fr.length cf, .slice Ap x.pg.length cp)
        have p0 := hc1 0 _ g0
        have p1 := hc1 1 _ g1
        have p2 := hc1 2 _ g2
        have p3 := hc1 3 _ g3
        have p4 := hc1 4 _ g4
        have p5 := hc1 5 _ g5
        have p6 := hc1 6 _ g6
        have p7 := hc1 7 _ g7
        have p8 := hc1 8 _ g8
        have p9 := hc1 9 _ g9
        have p10 := hc1 10 _ g10
        have p11 := hc1 11 _ g11
        have p12 := hc1 12 _ g12
        simp only [Nat.add_zero] at p0
        obtain ⟨nf, hnf⟩ : ∃ z, z = x.fr.length := ⟨_, rfl⟩
        obtain ⟨np, hnp⟩ : ∃ z, z = x.pg.length := ⟨_, rfl⟩
        rw [← hnf] at p2 BX HJa HFa RF
        rw [← hnp] at p3 BX HJa HFa RF
        have HNF := Lib.hid hnf
        have hnf1 : nf ≤ 1000000 := by rw [hnf]; exact hsm.1
        clear hc1 hx g0 g1 g2 g3 g4 g5 g6 g7 g8 g9 g10 g11 g12 HND hsm hnf hnp fa hb1 hf2 HF HJ
        go_upto_region 7 with fail
        clear p0 p1 p2 p3 p4 p5 p6 p7 p8 p9 p10 p11 p12
        have hwa : w2.heap.size ≤ (wr.alloc (.cells (ndA x (.slice Af nf cf) (.slice Ap np cp)) 49)).heap.size := HJa.out.fr.size
        clear hlt2
        generalize wr.alloc (.cells (ndA x (.slice Af nf cf) (.slice Ap np cp)) 49) = wa at *
        generalize wr.heap.size = gx at *
        have q0 := BX.out.cell 0
        have q2 := BX.out.cell 2
        simp at q0 q2
        have s0 := (HJa.out.bs (by omega)).cell 0
        simp at s0
        obtain ⟨out, hout⟩ : ∃ o, o = sortF (normL L) k := ⟨_, rfl⟩
        have HOUT := Lib.hid hout
        have HRB := Lib.hid (show readyB out x = (!hasI out x.id && x.fr.all (hasI out)) from rfl)
        have hlen := HJa.out.len
        have hown := HJa.out.own
        rw [← hout] at hlen hown
        have HC1 := stands_any x.id w.heap.size A' k c' _ out wa HJa.out.box hlen (by omega) (Reads.of_own hown) (Nat.le_refl _)
        obtain ⟨h1, hh1⟩ : ∃ b, b = hasI out x.id := ⟨_, rfl⟩
        rw [← hh1] at HC1 HRB
        have HC1 := Lib.hid HC1
        have hent := enters_of Tryz.func71 (by kernel_rfl) rfl
        clear hout hh1 hlen hown
        cases h1 with
        | true =>
          have HR0 := Lib.hid (show readyB out x = false by rw [HRB.out]; rfl)
          go_wp2_with fail
          refine HC1.out.mono ?_
          rintro e wb ⟨rfl, fb⟩
          have HFb := Lib.hid (HFa.out.trans (fb.mono (B' := wq.heap.size) (L' := []) HFa.out.size (by simp)))
          clear fb HC1 q0 q2 s0
          go_wp2_with fail
          go_roundg (n1 - (i + 1))
          case measure => omega
          case rel => exact ⟨i + 1, by omega, rfl, by go_num, Lib.hid (fun j y hj hy => by
            by_cases e : j = i
            · subst e
              have := HX.out.symm.trans hy
              injection this with this
              rw [← this, ← HOUT.out]
              exact HR0.out
            · exact HB.out j y (by omega) hy), HFb⟩
        | false =>
          go_wp2_with fail
          refine HC1.out.mono ?_
          rintro e wb ⟨rfl, fb⟩
          have HFb := Lib.hid (HFa.out.trans (fb.mono (B' := wq.heap.size) (L' := []) HFa.out.size (by simp)))
          have HJb := Lib.hid (HJa.out.mv fb)
          have BXb := Lib.hid (BX.out.fr fb BX.out.lt (by simp))
          have RFb := Lib.hid (RF.out.fr fb hwa (by simp))
          have hwb : w2.heap.size ≤ wb.heap.size := HJb.out.fr.size
          clear fb HC1 q0 q2 s0 HFa HJa BX RF hwa
          have q0 := BXb.out.cell 0
          have q2 := BXb.out.cell 2
          simp at q0 q2
          have hent2 := enters_of Tryz.func72 (by kernel_rfl) rfl
          have HC2 := jcontains_any 72 #[.pointer (some ⟨w.heap.size + 1, 0, none⟩)] (fun f => !hasI out f) Af cf w2.heap.size nf x.fr wb hent2 (fun f w' _ hf => nstands_any f (w.heap.size + 1) w.heap.size A' k c' _ out w' ((HJb.out.mv hf).bs (by omega)) (HJb.out.mv hf).box (by rw [HOUT.out]; exact (HJb.out.mv hf).len) (by omega) (by rw [HOUT.out]; exact Reads.of_own (HJb.out.mv hf).own) (Nat.le_refl _)) HNF.out hnf1 RFb.out hwb
          obtain ⟨h2, hh2⟩ : ∃ b, b = x.fr.any (fun f => !hasI out f) := ⟨_, rfl⟩
          rw [← hh2] at HC2
          have HC2 := Lib.hid HC2
          have HR2 := Lib.hid (show readyB out x = !h2 by rw [HRB.out, hh2, List.any_eq_not_all_not]; simp)
          clear hh2 HRB
          cases h2 with
          | true =>
            go_wp2_with fail
            refine HC2.out.mono ?_
            rintro e wd ⟨rfl, fd⟩
            have HFd := Lib.hid (HFb.out.trans (fd.mono (B' := wq.heap.size) (L' := []) HFb.out.size (by simp)))
            clear fd HC2 q0 q2
            go_wp2_with fail
            go_roundg (n1 - (i + 1))
            case measure => omega
            case rel => exact ⟨i + 1, by omega, rfl, by go_num, Lib.hid (fun j y hj hy => by
              by_cases e : j = i
              · subst e
                have := HX.out.symm.trans hy
                injection this with this
                rw [← this, ← HOUT.out]
                exact HR2.out
              · exact HB.out j y (by omega) hy), HFd⟩
          | false =>
            go_wp2_with fail
            refine HC2.out.mono ?_
            rintro e wd ⟨rfl, fd⟩
            have HJd := Lib.hid (HJb.out.mv fd)
            have BXd := Lib.hid (BXb.out.fr fd BXb.out.lt (by simp))
            have HFN := Lib.hid (HJd.out.ready HX.out (by rw [← HOUT.out]; exact HR2.out) HB.out)
            have hklt := sortF_room HJd.out.len.symm HFN.out
            rw [normL_len, HNL.out] at hklt
            clear fd HC2 q0 q2 HFb HJb BXb RFb hwb
            have q0 := BXd.out.cell 0
            have o0 := HJd.out.box.cell 0
            simp at q0 o0
            have hown := HJd.out.own
            have hsz := HJd.out.fr.size
            go_wp2_with (at_builtin; refine wpList_app_lit _ rfl (.tmp 28) (.tmp 31) intsTy rfl w2.heap.size (.slice A' k c') k _ rfl hown 1 1 _ rfl rfl (by simp [Value.oneCell']) (by omega) (by omega) hsz ?_; intro A3 c3 w4 hown4 hg4 hat4; have hb4 := (HJd.out.box.alloc (.cells #[.int .i64 x.id] 3)).grown hg4 (HJd.out.box.ne_own hown (by decide)); have zb4 := hb4.frozen 0; have cb4 := hb4.cell 0; simp at cb4)
            have HJ5 := Lib.hid (HJd.out.more HFN.out hown4 hg4)
            have HMU := Lib.hid (sortMu_lt HJ.out.box HJ5.out.box hk20)
            clear hown4 hg4 hat4 hb4 zb4 cb4 hown q0 o0 HJd BXd HC1 HC2
            generalize w4.setCell ⟨w.heap.size, 0, none⟩ (.slice A3 (k + 1) c3) = w5 at *
            go_step3
            first
              | exact ⟨rfl, w2, _, _, _, _, A3, k + 1, c3, _, _, _, _, _, _, _, _, _, _, _, _, _, _, _, _, _, _, _, _, _, _, _, _, _, _, _, _, _, _, _, rfl, HJ5⟩
              | exact ⟨rfl, ⟨w2, _, _, _, _, A3, k + 1, c3, _, _, _, _, _, _, _, _, _, _, _, _, _, _, _, _, _, _, _, _, _, _, _, _, _, _, _, _, _, _, _, rfl, HJ5⟩, HMU.out⟩
      · obtain rfl : i = n1 := by omega
        have HE := Lib.hid (HJ.out.none_ HB.out)
        have o0 := HJ.out.box.cell 0
        simp at o0
        go_wp2_with fail
        simp only [Exit.jump]
        go_ret
        unfold IntsOut
        rw [HE.out]
        exact ⟨A', c', k, HJ.out.len, rfl, ownsRow_base HJ.out.own HJ.out.fr2.size, HJ.out.fr2.trans (HJ.out.fr.mono HJ.out.fr2.size (by intro q hq hlt; simp at hq; omega))⟩
end Go.Proofs.YthfibggbipkmfaaGreat
namespace Go.Proofs.YthfibggbipkmfaaGreat
open Go.RowKit Go.Fb
theorem checkN_bad {L : List Nd} (h8 : L.length ≤ 8) {x : Nd} (hx : x ∈ L) (hb : nodeB L x = false) : checkN L = 10 := by
  unfold checkN
  rw [if_neg (by omega), if_neg]
  intro h
  rw [Bool.and_eq_true, List.all_eq_true] at h
  have := h.1 x hx
  rw [hb] at this
  cases this
theorem checkN_good {L : List Nd} (h8 : L.length ≤ 8) (ha : ∀ x ∈ L, nodeB L x = true) : checkN L = if unlikeB (idsN L) && (hasI (idsN L) 0 && decide ((sortN L).length = L.length)) then 0 else 10 := by
  unfold checkN
  have : L.all (nodeB L) = true := List.all_eq_true.2 ha
  rw [if_neg (by omega), this, Bool.true_and]
set_option maxRecDepth 100000 in
set_option maxHeartbeats 4000000 in
theorem gcheck_any (A : Option Addr) (c B n : Nat) (M : List Ndm) (w : World) (h : Nds w B A n M) (hB : B ≤ w.heap.size) (hs : Small M) :
    Calls Tryz.prog 16 #[.slice A n c] w fun e w' => e = .returned (.int .i64 (checkN (fstN M))) ∧ Fr w.heap.size [] w w' := by
  obtain ⟨L, hL⟩ : ∃ L, L = fstN M := ⟨_, rfl⟩
  have hnl : L.length = n := by rw [hL, h.num]; simp [fstN]
  obtain ⟨cv, hcv⟩ : ∃ v, v = checkN L := ⟨_, rfl⟩
  rw [← hL, ← hcv]
  have HCV := Lib.hid hcv
  have HL := Lib.hid hL
  have HNL := Lib.hid hnl
  have H := Lib.hid h
  have HN := Lib.hid h.num
  have HS := Lib.hid hs
  clear h hs hL hnl hcv
  by_cases h8 : 8 < n
  · have hn1 : n ≤ 1000000 := by rw [HN.out]; exact HS.out.1
    have hv : cv = 6 := by rw [HCV.out]; exact checkN_long.2 (by rw [HNL.out]; exact h8)
    have HV := Lib.hid hv
    clear hv
    go_enter Tryz.func16, Tryz.ntmps16
    go_wp2_with fail
    go_ret
    exact ⟨by rw [HV.out]; rfl, Fr.refl _ _ _⟩
  have hn8 : n ≤ 8 := by omega
  go_enter Tryz.func16, Tryz.ntmps16
  go_wp2_with fail
  go_loopg [3, 11] n (fun g s3 s11 wr => ∃ (k : Nat) (A' : Option Addr) (c' : Nat), k ≤ n ∧ g = n - k ∧ s11 = .int .i64 k ∧ s3 = .slice A' k c' ∧ RowKit.Hid (∀ x ∈ L.take k, nodeB L x = true) ∧ RowKit.Hid (wr.ownsRow w.heap.size 3 1 (.slice A' k c') k ((idsN (L.take k)).map (Value.int .i64))) ∧ RowKit.Hid (Fr w.heap.size [] w wr))
  case atStart => exact ⟨0, none, 0, Nat.zero_le _, rfl, rfl, rfl, Lib.hid (by simp), Lib.hid (World.ownsRow_nil _ _ _ _), Lib.hid (Fr.refl _ _ _)⟩
  case round =>
    obtain ⟨k, A', c', hk, rfl, rfl, rfl, HG, HO, FR⟩ := hrel
    by_cases hkn : k < n
    · have hki : (k : Int) < (n : Int) := by omega
      have hk0 : (0 : Int) ≤ (k : Int) := by omega
      obtain ⟨m, hx⟩ : ∃ m, M[k]? = some m := ⟨_, List.getElem?_eq_getElem (by rw [← HN.out]; exact hkn)⟩
      have HND := H.out.frw FR.out hB (by simp)
      obtain ⟨b1, o1, rfl, hb1, hc1⟩ := HND.get hx
      have hin := HND.inn m (List.mem_of_getElem? hx)
      have hsm := HS.out.2 m (List.mem_of_getElem? hx)
      have HTK := Lib.hid (show L.take (k + 1) = L.take k ++ [m.1] by rw [List.take_add_one, HL.out]; simp [fstN, hx])
      have HMEM := Lib.hid (show m.1 ∈ L by rw [HL.out]; exact List.mem_map.2 ⟨m, List.mem_of_getElem? hx, rfl⟩)
      obtain ⟨x, sf, sp⟩ := m
      have hBr : B ≤ wr.heap.size := Nat.le_trans hB FR.out.size
      have fa := (Fr.refl wr.heap.size [] wr).alloc (Nat.le_refl _) (.cells (ndA x sf sp) 49)
      have HW := node_any x sf sp (some ⟨b1, o1, none⟩) c B n M (wr.alloc (.cells (ndA x sf sp) 49)) (hin.frw fa hBr (by simp)) (HND.frw fa hBr (by simp)) (Nat.le_trans hBr fa.size) HS.out hsm.1 hsm.2
      have BX := Lib.hid (Blk.new wr 49 (ndA x sf sp))
      have HOa := Lib.hid (ownsRow_fr HO.out fa (fun q hq => ⟨(HO.out.lt q hq).2, by simp⟩))
      have FRa := Lib.hid (FR.out.trans (fa.mono (B' := w.heap.size) (L' := []) FR.out.size (by simp)))
      obtain ⟨⟨Af, cf, hf1, _⟩, ⟨Ap, cp, hp1, _⟩⟩ := hin
      simp only at hf1 hp1 hsm HTK HMEM
      subst hf1
      subst hp1
      obtain ⟨nb, hnb⟩ : ∃ b, b = nodeB L x := ⟨_, rfl⟩
      rw [show (M.map (·.1)) = L from HL.out.symm, ← hnb] at HW
      have HW := Lib.hid HW
      have HNB := Lib.hid hnb
      obtain ⟨g0, g1, g2, g3, g4, g5, g6, g7, g8, g9, g10, g11, g12⟩ := ndL_get (x, .slice Af x.fr.length cf, .slice Ap x.pg.length cp)
      have p0 := hc1 0 _ g0
      have p1 := hc1 1 _ g1
      have p2 := hc1 2 _ g2
      have p3 := hc1 3 _ g3
      have p4 := hc1 4 _ g4
      have p5 := hc1 5 _ g5
      have p6 := hc1 6 _ g6
      have p7 := hc1 7 _ g7
      have p8 := hc1 8 _ g8
      have p9 := hc1 9 _ g9
      have p10 := hc1 10 _ g10
      have p11 := hc1 11 _ g11
      have p12 := hc1 12 _ g12
      simp only [Nat.add_zero] at p0
      obtain ⟨nf, hnf⟩ : ∃ z, z = x.fr.length := ⟨_, rfl⟩
      obtain ⟨np, hnp⟩ : ∃ z, z = x.pg.length := ⟨_, rfl⟩
      rw [← hnf] at p2 HW BX HOa FRa
      rw [← hnp] at p3 HW BX HOa FRa
      clear hc1 hx g0 g1 g2 g3 g4 g5 g6 g7 g8 g9 g10 g11 g12 HND hsm hnf hnp fa HO FR hb1 hnb
      go_upto_region 7 with fail
      clear p0 p1 p2 p3 p4 p5 p6 p7 p8 p9 p10 p11 p12
      generalize wr.alloc (.cells (ndA x (.slice Af nf cf) (.slice Ap np cp)) 49) = wa at *
      generalize wr.heap.size = gx at *
      have q0 := BX.out.cell 0
      have q1 := BX.out.cell 1
      have q2 := BX.out.cell 2
      have q3 := BX.out.cell 3
      have q4 := BX.out.cell 4
      have q5 := BX.out.cell 5
      have q6 := BX.out.cell 6
      have q7 := BX.out.cell 7
      have q8 := BX.out.cell 8
      have q9 := BX.out.cell 9
      have q10 := BX.out.cell 10
      have q11 := BX.out.cell 11
      have q12 := BX.out.cell 12
      simp at q0 q1 q2 q3 q4 q5 q6 q7 q8 q9 q10 q11 q12
      cases nb with
      | false =>
        have hv : cv = 10 := by rw [HCV.out]; exact checkN_bad (by rw [HNL.out]; exact hn8) HMEM.out HNB.out.symm
        have HV := Lib.hid hv
        clear hv
        go_wp2_with fail
        refine HW.out.mono ?_
        rintro e w2 ⟨rfl, f2⟩
        have F2 := Lib.hid (FRa.out.trans (f2.mono (B' := w.heap.size) (L' := []) FRa.out.size (by simp)))
        clear f2 HW
        go_wp2_with fail
        go_ret
        exact ⟨by rw [HV.out]; rfl, F2.out⟩
      | true =>
        go_wp2_with fail
        refine HW.out.mono ?_
        rintro e w2 ⟨rfl, f2⟩
        have HO2 := Lib.hid (ownsRow_fr HOa.out f2 (fun q hq => ⟨(HOa.out.lt q hq).2, by simp⟩))
        have F2 := Lib.hid (FRa.out.trans (f2.mono (B' := w.heap.size) (L' := []) FRa.out.size (by simp)))
        have BX2 := Lib.hid (BX.out.fr f2 BX.out.lt (by simp))
        clear f2 HW q0 q1 q2 q3 q4 q5 q6 q7 q8 q9 q10 q11 q12 BX HOa FRa
        have q0 := BX2.out.cell 0
        simp at q0
        have hown := HO2.out
        have hsz := F2.out.size
        go_wp2_with (at_builtin; refine wpList_app_lit _ rfl (.tmp 19) (.tmp 22) intsTy rfl w.heap.size (.slice A' k c') k _ rfl hown 1 1 _ rfl rfl (by simp [Value.oneCell']) (by omega) (by omega) hsz ?_; intro A3 c3 w4 hown4 hg4 hat4)
        have F4 := Lib.hid (F2.out.trans (Fr.of_app hg4 hown hsz))
        have HO4 := Lib.hid hown4
        clear hown4 hg4 hat4 hown
        go_roundg (n - (k + 1))
        case measure => omega
        case rel => exact ⟨k + 1, A3, c3, by omega, rfl, by go_num, rfl, Lib.hid (by
          rw [HTK.out]
          intro y hy
          rcases List.mem_append.1 hy with hy | hy
          · exact HG.out y hy
          · rw [List.mem_singleton.1 hy]; exact HNB.out.symm), by rw [HTK.out]; simpa [idsN] using HO4, F4⟩
    · obtain rfl : k = n := by omega
      have htk : L.take k = L := List.take_of_length_le (by rw [HNL.out]; exact Nat.le_refl _)
      rw [htk] at HG HO
      have HGOOD := Lib.hid (checkN_good (by rw [HNL.out]; exact hn8) HG.out)
      have hln : k = (idsN L).length := by simp [idsN, HNL.out]
      have HLN := Lib.hid hln
      have HU := unlike_any A' k c' _ (idsN L) wr hln (by omega) (Reads.of_own HO.out) (Nat.le_refl _)
      obtain ⟨ub, hub⟩ : ∃ b, b = unlikeB (idsN L) := ⟨_, rfl⟩
      obtain ⟨zb, hzb⟩ : ∃ b, b = hasI (idsN L) 0 := ⟨_, rfl⟩
      rw [← hub] at HU HGOOD
      rw [← hzb] at HGOOD
      have HZB := Lib.hid hzb
      have HU := Lib.hid HU
      clear htk hln hub hzb
      cases ub with
      | false =>
        have hv : cv = 10 := by rw [HCV.out, HGOOD.out]; rfl
        have HV := Lib.hid hv
        clear hv
        go_wp2_with fail
        refine HU.out.mono ?_
        rintro e w2 ⟨rfl, f2⟩
        have F2 := Lib.hid (FR.out.trans (f2.mono (B' := w.heap.size) (L' := []) FR.out.size (by simp)))
        clear f2 HU
        go_wp2_with fail
        go_ret
        exact ⟨by rw [HV.out]; rfl, F2.out⟩
      | true =>
        go_wp2_with fail
        refine HU.out.mono ?_
        rintro e w2 ⟨rfl, f2⟩
        have F2 := Lib.hid (FR.out.trans (f2.mono (B' := w.heap.size) (L' := []) FR.out.size (by simp)))
        have HO2 := ownsRow_fr HO.out f2 (fun q hq => ⟨(HO.out.lt q hq).2, by simp⟩)
        have HC := ihas_any 0 A' c' _ k (idsN L) w2 HLN.out (by omega) (Reads.of_own HO2) (Nat.le_refl _)
        rw [← HZB.out] at HC
        have HC := Lib.hid HC
        clear f2 HU HO2 HZB
        cases zb with
        | false =>
          have hv : cv = 10 := by rw [HCV.out, HGOOD.out]; rfl
          have HV := Lib.hid hv
          clear hv
          go_wp2_with fail
          refine HC.out.mono ?_
          rintro e w3 ⟨rfl, f3⟩
          have F3 := Lib.hid (F2.out.trans (f3.mono (B' := w.heap.size) (L' := []) F2.out.size (by simp)))
          clear f3 HC
          go_wp2_with fail
          go_ret
          exact ⟨by rw [HV.out]; rfl, F3.out⟩
        | true =>
          go_wp2_with fail
          refine HC.out.mono ?_
          rintro e w3 ⟨rfl, f3⟩
          have F3 := Lib.hid (F2.out.trans (f3.mono (B' := w.heap.size) (L' := []) F2.out.size (by simp)))
          have HSO := sort_any A c B k M w3 (H.out.frw F3.out hB (by simp)) (Nat.le_trans hB F3.out.size) HS.out (by omega)
          rw [← HL.out] at HSO
          have HSO := Lib.hid HSO
          clear f3 HC
          go_wp2_with fail
          refine HSO.out.mono ?_
          rintro e w4 ⟨A4, c4, q, hq, rfl, _, f4⟩
          have F4 := Lib.hid (F3.out.trans (f4.mono (B' := w.heap.size) (L' := []) F3.out.size (by simp)))
          have HQ := Lib.hid hq
          clear f4 HSO hq
          by_cases hqk : q = k
          · have hv : cv = 0 := by rw [HCV.out, HGOOD.out, ← HQ.out, HNL.out, decide_eq_true hqk]; rfl
            have HV := Lib.hid hv
            subst hqk
            clear hv
            go_wp2_with fail
            go_ret
            exact ⟨by rw [HV.out]; rfl, F4.out⟩
          · have hv : cv = 10 := by rw [HCV.out, HGOOD.out, ← HQ.out, HNL.out, decide_eq_false hqk]; rfl
            have HV := Lib.hid hv
            have hne : ((q : Int) == (k : Int)) = false := by simp; omega
            have hne2 : ((q : Int) != (k : Int)) = true := by simp; omega
            clear hv
            go_wp2_with fail
            go_ret
            exact ⟨by rw [HV.out]; rfl, F4.out⟩
end Go.Proofs.YthfibggbipkmfaaGreat
namespace Go.Proofs.YthfibggbipkmfaaGreat
open Go.RowKit Go.Fb
def zNd : Nd := ⟨0, 0, 0, [], [], fun _ => 0⟩
/-- A node, or the zero one. -/
def getN (L : List Nd) (id : Int) : Nd := (findN L id).getD zNd
theorem FindOut.get {L : List Nd} {id : Int} {w w' : World} {e : Ending} (h : FindOut L id w e w') : ∃ x sf sp, x = getN L id ∧ e = .returned (.tuple #[.agg (ndA x sf sp), .bool (findN L id).isSome]) ∧ NdIn w' w'.heap.size (x, sf, sp) ∧ Fr w.heap.size [] w w' := by
  obtain ⟨h | ⟨x, sf, sp, h1, h2, h3⟩, hf⟩ := h
  · refine ⟨zNd, .slice none 0 0, .slice none 0 0, ?_, ?_, ⟨⟨none, 0, rfl, Reads.none_⟩, ⟨none, 0, rfl, Reads.none_⟩⟩, hf⟩
    · rw [getN, h.1]; rfl
    · rw [h.2, h.1]; rfl
  · refine ⟨x, sf, sp, ?_, ?_, h3, hf⟩
    · rw [getN, h1]; rfl
    · rw [h2, h1]; rfl
def belB (id : Int) (out : List Int) (f : Int) : Bool := decide (f = id) || hasI out f
/-- What stands below a node, as far as it is gone through. -/
def belN (L : List Nd) (id : Int) : List Int → List Int → List Int
  | [], out => out
  | n :: l, out => belN L id l (if (getN L n).fr.any (belB id out) then out ++ [n] else out)
theorem belN_snoc (L : List Nd) (id n : Int) : ∀ (l out : List Int), belN L id (l ++ [n]) out = if (getN L n).fr.any (belB id (belN L id l out)) then belN L id l out ++ [n] else belN L id l out
  | [], _ => rfl
  | _ :: l, _ => belN_snoc L id n l _
/-- What holds in the loop of Below. -/
structure BelJ (gI gO : Nat) (id : Int) (L : List Nd) (l : List Int) (w w2 wr : World) (k : Nat) (A' : Option Addr) (q c' : Nat) : Prop where
  fr2 : Fr w.heap.size [] w w2
  blI : Blk w2 gI 3 #[.int .i64 id]
  fr : Fr w2.heap.size [gO] w2 wr
  box : Blk wr gO 45 #[.slice A' q c']
  own : wr.ownsRow w2.heap.size 3 1 (.slice A' q c') q ((belN L id (l.take k) []).map (Value.int .i64))
  len : q = (belN L id (l.take k) []).length
theorem BelJ.mv {gI gO : Nat} {id : Int} {L : List Nd} {l : List Int} {w w2 wr wi : World} {k : Nat} {A' : Option Addr} {q c' : Nat} (h : BelJ gI gO id L l w w2 wr k A' q c') (hf : Fr wr.heap.size [] wr wi) : BelJ gI gO id L l w w2 wi k A' q c' :=
  ⟨h.fr2, h.blI, h.fr.trans (hf.mono (B' := w2.heap.size) (L' := [gO]) h.fr.size (by simp)), h.box.fr hf h.box.lt (by simp), ownsRow_fr h.own hf (fun q hq => ⟨(h.own.lt q hq).2, by simp⟩), h.len⟩
theorem BelJ.frw {gI gO : Nat} {id : Int} {L : List Nd} {l : List Int} {w w2 wr : World} {k : Nat} {A' : Option Addr} {q c' : Nat} (h : BelJ gI gO id L l w w2 wr k A' q c') (hg : w.heap.size ≤ gO) : Fr w.heap.size [] w wr :=
  h.fr2.trans (h.fr.mono h.fr2.size (by intro q hq hlt; simp at hq; omega))
theorem BelJ.more {gI gO : Nat} {id n : Int} {L : List Nd} {l : List Int} {w w2 w3 w4 : World} {k : Nat} {A' A3 : Option Addr} {q c' c3 : Nat} {news : Array Value} (h : BelJ gI gO id L l w w2 w3 k A' q c') (hn : l[k]? = some n) (hf : (getN L n).fr.any (belB id (belN L id (l.take k) [])) = true)
    (ho : w4.ownsRow w2.heap.size 3 1 (.slice A3 (q + 1) c3) (q + 1) ((belN L id (l.take k) []).map (Value.int .i64) ++ [Value.int .i64 n])) (hg : (w3.alloc (.cells news 3)).grownBy w4 (Value.ownBlock (.slice A' q c'))) : BelJ gI gO id L l w w2 (w4.setCell ⟨gO, 0, none⟩ (.slice A3 (q + 1) c3)) (k + 1) A3 (q + 1) c3 := by
  have e : belN L id (l.take (k + 1)) [] = belN L id (l.take k) [] ++ [n] := by
    rw [List.take_add_one, hn]
    show belN L id (l.take k ++ [n]) [] = _
    rw [belN_snoc, hf]; rfl
  have hb4 : Blk w4 gO 45 #[.slice A' q c'] := (h.box.alloc _).grown hg (h.box.ne_own h.own (by decide))
  refine ⟨h.fr2, h.blI, ?_, by simpa using hb4.set_ 0 (.slice A3 (q + 1) c3), ?_, ?_⟩
  · have f4 := Fr.of_app hg h.own h.fr.size
    exact (h.fr.trans (f4.mono (Nat.le_refl _) (by simp))).setCell (.inr (by simp)) _
  · rw [e, List.map_append]
    exact ownsRow_setCell_other ho (fun e => hb4.ne_own ho (by decide) e.symm) _
  · rw [e, List.length_append, ← h.len]; rfl
end Go.Proofs.YthfibggbipkmfaaGreat
namespace Go.Proofs.YthfibggbipkmfaaGreat
open Go.RowKit Go.Fb
theorem fst_take {M : List Ndm} {k : Nat} {m : Ndm} (h : M[k]? = some m) : (fstN M).take (k + 1) = (fstN M).take k ++ [m.1] := by
  rw [List.take_add_one]; simp [fstN, h]
end Go.Proofs.YthfibggbipkmfaaGreat
namespace Go.Proofs.YthfibggbipkmfaaGreat
open Go.RowKit Go.Fb
theorem any_take {α : Type} {p : α → Bool} {l : List α} {k : Nat} {x : α} (hx : l[k]? = some x) (hp : p x = true) : l.any p = true := List.any_eq_true.2 ⟨x, List.mem_of_getElem? hx, hp⟩
theorem any_none {α : Type} {p : α → Bool} {l : List α} (h : ∀ x ∈ l, p x = false) : l.any p = false := by rw [List.any_eq_false]; intro x hx; simp [h x hx]
def rngI (k : Nat) : List Int := (List.range k).map fun (i : Nat) => (i : Int)
theorem rngI_succ (k : Nat) : rngI (k + 1) = rngI k ++ [(k : Int)] := by unfold rngI; rw [List.range_succ, List.map_append]; rfl
theorem filt_yes {p : Int → Bool} {k : Nat} (h : p k = true) : (rngI (k + 1)).filter p = (rngI k).filter p ++ [(k : Int)] := by rw [rngI_succ, List.filter_append]; simp [h]
/-- What holds in the loops of Children and Below. -/
structure FltJ (p : Int → Bool) (w wr : World) (k : Nat) (A' : Option Addr) (q c' : Nat) : Prop where
  fr : Fr w.heap.size [] w wr
  own : wr.ownsRow w.heap.size 3 1 (.slice A' q c') q (((rngI k).filter p).map (Value.int .i64))
  len : q = ((rngI k).filter p).length
theorem FltJ.mv {p : Int → Bool} {w wr wi : World} {k : Nat} {A' : Option Addr} {q c' : Nat} (h : FltJ p w wr k A' q c') (hf : Fr wr.heap.size [] wr wi) : FltJ p w wi k A' q c' :=
  ⟨h.fr.trans (hf.mono (B' := w.heap.size) (L' := []) h.fr.size (by simp)), ownsRow_fr h.own hf (fun q hq => ⟨(h.own.lt q hq).2, by simp⟩), h.len⟩
theorem FltJ.more {p : Int → Bool} {w w3 w4 : World} {k : Nat} {A' A3 : Option Addr} {q c' c3 : Nat} {news : Array Value} (h : FltJ p w w3 k A' q c') (hp : p k = true)
    (ho : w4.ownsRow w.heap.size 3 1 (.slice A3 (q + 1) c3) (q + 1) (((rngI k).filter p).map (Value.int .i64) ++ [Value.int .i64 k])) (hg : (w3.alloc (.cells news 3)).grownBy w4 (Value.ownBlock (.slice A' q c'))) : FltJ p w w4 (k + 1) A3 (q + 1) c3 := by
  refine ⟨h.fr.trans (Fr.of_app hg h.own h.fr.size), ?_, ?_⟩
  · rw [filt_yes hp, List.map_append]; exact ho
  · rw [filt_yes hp, List.length_append, ← h.len]; rfl
end Go.Proofs.YthfibggbipkmfaaGreat
namespace Go.Proofs.YthfibggbipkmfaaGreat
theorem posI_lt {l : List Int} {x : Int} (h : x ∈ l) : posI l x < l.length := (List.getElem?_eq_some_iff.1 (posI_get h)).1
end Go.Proofs.YthfibggbipkmfaaGreat
namespace Go.Proofs.YthfibggbipkmfaaGreat
/-- What a list of numbers and depths has for a number; 0: nothing. -/
def getD : List (Int × Nat) → Int → Nat
  | [], _ => 0
  | e :: E, x => if e.1 = x then e.2 else getD E x
end Go.Proofs.YthfibggbipkmfaaGreat
namespace Go.Proofs.YthfibggbipkmfaaGreat
theorem nodup_subG {α : Type} [DecidableEq α] : ∀ {a b : List α}, a.Nodup → (∀ x ∈ a, x ∈ b) → a.length ≤ b.length
  | [], _, _, _ => by simp
  | x :: a, b, h, hs => by
    obtain ⟨h1, h2⟩ := List.nodup_cons.1 h
    have hx := hs x (by simp)
    have := nodup_subG (a := a) (b := b.erase x) h2 fun y hy => by
      have hne : y ≠ x := fun e => h1 (e ▸ hy)
      exact (List.mem_erase_of_ne hne).2 (hs y (by simp [hy]))
    rw [List.length_erase_of_mem hx] at this
    have := List.length_pos_of_mem hx
    simp only [List.length_cons]; omega
end Go.Proofs.YthfibggbipkmfaaGreat
namespace Go.Proofs.YthfibggbipkmfaaGreat
open Go.RowKit Go.Fb
end Go.Proofs.YthfibggbipkmfaaGreat
namespace Go.Proofs.YthfibggbipkmfaaGreat
open Go.RowKit Go.Fb
end Go.Proofs.YthfibggbipkmfaaGreat
namespace Go.Proofs.YthfibggbipkmfaaGreat
open Go.RowKit Go.Fb
end Go.Proofs.YthfibggbipkmfaaGreat
namespace Go.Proofs.YthfibggbipkmfaaGreat
open Go.RowKit Go.Fb
end Go.Proofs.YthfibggbipkmfaaGreat
namespace Go.Proofs.YthfibggbipkmfaaGreat
open Go.RowKit Go.Fb
end Go.Proofs.YthfibggbipkmfaaGreat
namespace Go.Proofs.YthfibggbipkmfaaGreat
end Go.Proofs.YthfibggbipkmfaaGreat
namespace Go.Proofs.YthfibggbipkmfaaGreat
open Go.RowKit Go.Fb
/-- What holds in the loop of the document's Order. -/
structure OrJ (L : List Nd) (w wr : World) (k : Nat) (A' : Option Addr) (c' : Nat) : Prop where
  fr : Fr w.heap.size [] w wr
  own : wr.ownsRow w.heap.size 3 1 (.slice A' k c') k ((sortF (normL L) k).map (Value.int .i64))
  len : k = (sortF (normL L) k).length
theorem OrJ.more {L : List Nd} {w w3 w4 : World} {k : Nat} {A' A3 : Option Addr} {c' c3 : Nat} {news : Array Value} {x : Nd} (h : OrJ L w w3 k A' c') (hf : (normL L).find? (readyB (sortF (normL L) k)) = some x)
    (ho : w4.ownsRow w.heap.size 3 1 (.slice A3 (k + 1) c3) (k + 1) ((sortF (normL L) k).map (Value.int .i64) ++ [Value.int .i64 x.id])) (hg : (w3.alloc (.cells news 3)).grownBy w4 (Value.ownBlock (.slice A' k c'))) : OrJ L w w4 (k + 1) A3 c3 := by
  refine ⟨h.fr.trans (Fr.of_app hg h.own h.fr.size), ?_, ?_⟩
  · rw [sortF_some hf, List.map_append]; exact ho
  · rw [sortF_some hf, List.length_append, ← h.len]; rfl
end Go.Proofs.YthfibggbipkmfaaGreat
namespace Go.Proofs.YthfibggbipkmfaaGreat
theorem one_filt {L : List Nd} (hu : (idsN L).Nodup) {n : Nd} (hn : n ∈ L) : filtN n.id L = [n] := by
  induction L with
  | nil => cases hn
  | cons y L ih =>
    have hu' := List.nodup_cons.1 hu
    rw [filtN_head]
    rcases List.mem_cons.1 hn with h | h
    · subst h
      rw [if_pos rfl]
      congr 1
      unfold filtN
      rw [List.filter_eq_nil_iff]
      intro z hz e
      simp at e
      exact hu'.1 (List.mem_map.2 ⟨z, hz, e⟩)
    · have hne : y.id ≠ n.id := fun e => hu'.1 (List.mem_map.2 ⟨n, h, e.symm⟩)
      rw [if_neg hne]
      exact ih hu'.2 h
end Go.Proofs.YthfibggbipkmfaaGreat
namespace Go.Proofs.YthfibggbipkmfaaGreat
structure Stp where
  kind : Int
  nd : Nd
  rs : Bool
def pgN (l : List (Int × Int)) (x : Nd) : Nd := ⟨x.id, x.kind, x.par, x.fr, l, x.rt⟩
def rtN (p : Int) (r : Nat → Int) (x : Nd) : Nd := ⟨x.id, x.kind, p, x.fr, x.pg, r⟩
def frN (l : List Int) (x : Nd) : Nd := ⟨x.id, x.kind, x.par, l, x.pg, x.rt⟩
def updN (N : List Nd) (id : Int) (f : Nd → Nd) : List Nd := N.map fun n => if n.id = id then f n else n
def delN (N : List Nd) (id : Int) : List Nd := N.filter fun n => !decide (n.id = id)
/-- A step without what doesn't matter. -/
def cleanS (s : Stp) : Stp :=
  if s.kind = 1 then ⟨1, ⟨s.nd.id, 0, 0, [], s.nd.pg, fun _ => 0⟩, s.rs⟩
  else if s.kind = 2 then ⟨2, s.nd, false⟩
  else if s.kind = 3 then ⟨3, ⟨s.nd.id, 0, 0, [], [], fun _ => 0⟩, false⟩
  else if s.kind = 4 then ⟨4, ⟨s.nd.id, 0, s.nd.par, [], [], s.nd.rt⟩, false⟩
  else if s.kind = 5 then ⟨5, ⟨s.nd.id, 0, 0, s.nd.fr, [], fun _ => 0⟩, false⟩
  else ⟨0, ⟨0, 0, 0, [], [], fun _ => 0⟩, false⟩
/-- The change of a step: the error's number, the nodes. -/
def chgN (N : List Nd) (s : Stp) : Int × List Nd :=
  match findN N s.nd.id with
  | none => if s.kind = 2 then (if s.nd.kind = 0 then (11, []) else (0, N ++ [s.nd])) else (12, [])
  | some n =>
    if s.kind = 2 then (13, [])
    else if s.kind = 1 then (if n.kind = 1 then (if (chkL s.nd.pg).isSome = true then (0, updN N s.nd.id (pgN s.nd.pg)) else (9, [])) else (11, []))
    else if s.kind = 3 then (if n.kind = 0 ∨ (childN N s.nd.id).length ≠ 0 then (11, []) else (0, delN N s.nd.id))
    else if s.kind = 4 then (if n.kind = 0 then (11, []) else (0, updN N s.nd.id (rtN s.nd.par s.nd.rt)))
    else (if n.kind = 2 then (0, updN N s.nd.id (frN s.nd.fr)) else (11, []))
def endN (r : Int × List Nd) : Int × List Nd := if r.1 ≠ 0 then (r.1, []) else if checkN r.2 ≠ 0 then (checkN r.2, []) else (0, normL r.2)
def endR (r : Int × List Nd) : Int × List Nd := if r.1 ≠ 0 then (r.1, []) else if checkN r.2 ≠ 0 then (checkN r.2, []) else (0, r.2)
def stepN (L : List Nd) (s : Stp) : Int × List Nd := if checkN L ≠ 0 then (10, []) else if s.kind < 1 ∨ 5 < s.kind then (11, []) else endN (chgN (normL L) s)
def stepR (L : List Nd) (s : Stp) : Int × List Nd := if checkN L ≠ 0 then (10, []) else if s.kind < 1 ∨ 5 < s.kind then (11, []) else endR (chgN L s)
def goN (i : Nat) (L : List Nd) : List Stp → Int × Nat × List Nd
  | [] => (0, 0, L)
  | s :: p => if (stepN L s).1 ≠ 0 then ((stepN L s).1, i + 1, []) else goN (i + 1) (stepN L s).2 p
def applyN (L : List Nd) (p : List Stp) : Int × Nat × List Nd := if checkN L ≠ 0 then (10, 0, []) else if p.length < 1 ∨ 6 < p.length then (11, 0, []) else goN 0 L p
theorem ids_perm {L K : List Nd} (h : L.Perm K) : (idsN L).Perm (idsN K) := h.map _
theorem filt_find {L : List Nd} (hu : (idsN L).Nodup) (k : Int) : filtN k L = (findN L k).toList := by
  cases hf : findN L k with
  | none =>
    unfold filtN
    rw [List.filter_eq_nil_iff.2]
    · rfl
    · intro y hy e
      have := List.find?_eq_none.1 hf y hy
      exact this e
  | some n =>
    have h1 := findN_id hf
    rw [← h1, one_filt hu (findN_mem hf)]
    rfl
theorem find_perm {L K : List Nd} (h : L.Perm K) (hu : (idsN L).Nodup) (k : Int) : findN L k = findN K k := by
  have hk : (idsN K).Nodup := (ids_perm h).nodup_iff.1 hu
  cases hf : findN L k with
  | some n =>
    have := findN_one hk (h.mem_iff.1 (findN_mem hf))
    rw [findN_id hf] at this
    exact this.symm
  | none =>
    cases hg : findN K k with
    | none => rfl
    | some n =>
      have := findN_one hu (h.mem_iff.2 (findN_mem hg))
      rw [findN_id hg, hf] at this
      cases this
theorem norm_perm {L K : List Nd} (h : L.Perm K) (hu : (idsN L).Nodup) : normL L = normL K := by
  have hk : (idsN K).Nodup := (ids_perm h).nodup_iff.1 hu
  refine normL_eq (normL_sorted L) fun k => ?_
  rw [normL_filt, filt_find hu, filt_find hk, find_perm h hu]
theorem right_perm {L K : List Nd} (h : L.Perm K) (g : RightG L) : RightG K := by
  refine ⟨by rw [← h.length_eq]; exact g.len, fun n hn => ?_, (ids_perm h).nodup_iff.1 g.uni, (ids_perm h).mem_iff.1 g.zero, ?_⟩
  · obtain ⟨a1, a2, a3, a4, a5⟩ := nodeB_iff.1 (g.each n (h.mem_iff.2 hn))
    refine nodeB_iff.2 ⟨a1, a2, a3, a4, fun f hf => ?_⟩
    rw [← find_perm h g.uni]
    exact a5 f hf
  · obtain ⟨r, hr⟩ := g.rank
    exact ⟨r, fun n hn => hr n (h.mem_iff.2 hn)⟩
theorem check_perm {L K : List Nd} (h : L.Perm K) : checkN L = checkN K := by
  have hl := h.length_eq
  rcases checkN_three L with h1 | h1 | h1
  · rw [h1, checkN_zero.2 (right_perm h (checkN_zero.1 h1))]
  · rw [h1, checkN_long.2 (by have := checkN_long.1 h1; omega)]
  · rcases checkN_three K with h2 | h2 | h2
    · rw [checkN_zero.2 (right_perm h.symm (checkN_zero.1 h2))] at h1; cases h1
    · rw [checkN_long.2 (by have := checkN_long.1 h2; omega)] at h1; cases h1
    · rw [h1, h2]
theorem child_perm {L K : List Nd} (h : L.Perm K) (id : Int) : childN L id = childN K id :=
  rises_eq (childN_rises L id) (childN_rises K id) fun c => by
    rw [childN_mem, childN_mem]
    constructor
    · rintro ⟨n, hn, r⟩; exact ⟨n, h.mem_iff.1 hn, r⟩
    · rintro ⟨n, hn, r⟩; exact ⟨n, h.mem_iff.2 hn, r⟩
theorem chg_perm {L K : List Nd} (h : L.Perm K) (hu : (idsN L).Nodup) (s : Stp) : (chgN L s).1 = (chgN K s).1 ∧ (chgN L s).2.Perm (chgN K s).2 := by
  unfold chgN
  rw [find_perm h hu, child_perm h]
  have hm : ∀ f, (updN L s.nd.id f).Perm (updN K s.nd.id f) := fun f => h.map _
  have hd : (delN L s.nd.id).Perm (delN K s.nd.id) := h.filter _
  have ha : (L ++ [s.nd]).Perm (K ++ [s.nd]) := h.append_right _
  cases findN K s.nd.id with
  | none =>
    simp only
    by_cases h1 : s.kind = 2
    · rw [if_pos h1, if_pos h1]
      by_cases h2 : s.nd.kind = 0
      · rw [if_pos h2, if_pos h2]; exact ⟨rfl, .refl _⟩
      · rw [if_neg h2, if_neg h2]; exact ⟨rfl, ha⟩
    · rw [if_neg h1, if_neg h1]; exact ⟨rfl, .refl _⟩
  | some n =>
    simp only
    split
    · exact ⟨rfl, .refl _⟩
    split
    · split
      · split
        · exact ⟨rfl, hm _⟩
        · exact ⟨rfl, .refl _⟩
      · exact ⟨rfl, .refl _⟩
    split
    · split
      · exact ⟨rfl, .refl _⟩
      · exact ⟨rfl, hd⟩
    split
    · split
      · exact ⟨rfl, .refl _⟩
      · exact ⟨rfl, hm _⟩
    split
    · exact ⟨rfl, hm _⟩
    · exact ⟨rfl, .refl _⟩
theorem end_perm {a b : Int × List Nd} (h1 : a.1 = b.1) (h2 : a.2.Perm b.2) : (endN a).1 = (endR b).1 ∧ ((endN a).1 = 0 → RightG (endR b).2 ∧ (endN a).2 = normL (endR b).2) := by
  unfold endN endR
  rw [h1, check_perm h2]
  by_cases c : b.1 ≠ 0
  · rw [if_pos c, if_pos c]
    exact ⟨rfl, fun e => absurd e c⟩
  rw [if_neg c, if_neg c]
  by_cases d : checkN b.2 ≠ 0
  · rw [if_pos d, if_pos d]
    exact ⟨rfl, fun e => absurd e d⟩
  rw [if_neg d, if_neg d]
  have hr := checkN_zero.1 (Decidable.not_not.1 d)
  exact ⟨rfl, fun _ => ⟨hr, norm_perm h2 ((ids_perm h2).nodup_iff.2 hr.uni)⟩⟩
/-- The program's step and the document's: one error; one graph. -/
theorem step_agree {L K : List Nd} (h : L.Perm K) (s : Stp) : (stepN L s).1 = (stepR K s).1 ∧ ((stepN L s).1 = 0 → RightG (stepR K s).2 ∧ (stepN L s).2 = normL (stepR K s).2) := by
  unfold stepN stepR
  rw [check_perm h]
  by_cases c : checkN K ≠ 0
  · rw [if_pos c, if_pos c]
    exact ⟨rfl, fun e => by cases e⟩
  rw [if_neg c, if_neg c]
  split
  · exact ⟨rfl, fun e => by cases e⟩
  have hr := checkN_zero.1 (Decidable.not_not.1 c)
  have hp : (normL L).Perm K := (normL_perm L).trans h
  obtain ⟨h1, h2⟩ := chg_perm hp ((ids_perm hp).nodup_iff.2 hr.uni) s
  exact end_perm h1 h2
end Go.Proofs.YthfibggbipkmfaaGreat
namespace Go.Proofs.YthfibggbipkmfaaGreat
open Go.RowKit Go.Fb
abbrev stA (kd : Int) (x : Nd) (rs : Bool) (sf sp : Value) : Array Value := #[.int .i64 kd, .int .i64 x.id, .int .i64 x.kind, sf, sp, .int .i64 x.par, .int .i64 (x.rt 0), .int .i64 (x.rt 1), .int .i64 (x.rt 2), .int .i64 (x.rt 3), .int .i64 (x.rt 4), .int .i64 (x.rt 5), .int .i64 (x.rt 6), .int .i64 (x.rt 7), .bool rs]
abbrev stV (s : Stp) (sf sp : Value) : Array Value := stA s.kind s.nd s.rs sf sp
/-- What a clean step is. -/
def CleanOut (s : Stp) (w : World) (e : Ending) (w' : World) : Prop :=
  ∃ tf tp, e = .returned (.agg (stV (cleanS s) tf tp)) ∧ NdIn w' w'.heap.size ((cleanS s).nd, tf, tp) ∧ Fresh w.heap.size tf ∧ Fresh w.heap.size tp ∧ Fr w.heap.size [] w w'
theorem fresh_nil (b : Nat) : Fresh b (.slice none 0 0) := fun A n c h hn => by injection h with _ h2; omega
theorem ndin_fresh {w w' : World} {B B' b : Nat} {L : List Nat} {m : Ndm} (h : NdIn w B m) (f1 : Fresh b m.2.1) (f2 : Fresh b m.2.2) (hf : Fr B' L w w') (hB : B ≤ B') (hL : ∀ k ∈ L, k < b) : NdIn w' B m := by
  obtain ⟨⟨A, c, h1, h2⟩, ⟨A', c', h3, h4⟩⟩ := h
  exact ⟨⟨A, c, h1, h2.frL hf hB (fresh_notin f1 hL h1)⟩, ⟨A', c', h3, h4.frL hf hB (fresh_notin f2 hL h3)⟩⟩
theorem nd_bare (w : World) (B : Nat) (x : Nd) (h1 : x.fr = []) (h2 : x.pg = []) : NdIn w B (x, .slice none 0 0, .slice none 0 0) :=
  ⟨⟨none, 0, by rw [h1]; rfl, by rw [h1]; exact Reads.none_⟩, ⟨none, 0, by rw [h2]; rfl, by rw [h2]; exact Reads.none_⟩⟩
theorem kd_ne {a b : Int} (h : a ≠ b) : (a == b) = false := by simpa using h
end Go.Proofs.YthfibggbipkmfaaGreat
namespace Go.Proofs.YthfibggbipkmfaaGreat
open Go.RowKit Go.Fb
theorem ndc_take (M : List Ndm) (k : Nat) : (cellsN M).take (k * 13) = cellsN (M.take k) := by
  have h : cellsN M = cellsN (M.take k) ++ cellsN (M.drop k) := by rw [← cellsN_app, List.take_append_drop]
  rcases Nat.lt_or_ge M.length k with hk | hk
  · rw [List.take_of_length_le (by omega : M.length ≤ k), List.take_of_length_le (by rw [cellsN_length]; omega)]
  · rw [h, List.take_append_of_le_length (by rw [cellsN_length, List.length_take]; omega), List.take_of_length_le (by rw [cellsN_length, List.length_take]; omega)]
theorem ndc_drop (M : List Ndm) (k : Nat) (hk : k ≤ M.length) : (cellsN M).drop (k * 13) = cellsN (M.drop k) := by
  have h : cellsN M = cellsN (M.take k) ++ cellsN (M.drop k) := by rw [← cellsN_app, List.take_append_drop]
  rw [h, List.drop_append_of_le_length (by rw [cellsN_length, List.length_take]; omega), List.drop_of_length_le (by rw [cellsN_length, List.length_take]; omega), List.nil_append]
theorem ndz_one : ∀ u ∈ (Value.agg ndZ).cells, u.oneCell' = true := by decide +kernel
theorem Fr.of_grown {w w' : World} {g : Nat} (h : w.grownBy w' (some g)) : Fr w.heap.size [g] w w' := (Fr.refl _ _ _).grown h (Nat.le_refl _) (fun k hk => .inr (by injection hk with hk; simp [hk]))
theorem ndc_app (a b : List Ndm) : cellsN (a ++ b) = cellsN a ++ cellsN b := cellsN_app a b
theorem ndOnes {M : List Ndm} (h : ∀ m ∈ M, SlN m) : ∀ u ∈ cellsN M, u.oneCell' = true := by
  intro u hu
  obtain ⟨m, hm, hu⟩ := List.mem_flatMap.1 hu
  obtain ⟨A, n, c, P, q, d, h1, h2⟩ := h m hm
  obtain ⟨x, sf, sp⟩ := m
  simp only at h1 h2
  subst h1
  subst h2
  simp [ndL] at hu
  rcases hu with rfl | rfl | rfl | rfl | rfl | rfl | rfl | rfl | rfl | rfl | rfl | rfl | rfl <;> rfl
set_option maxRecDepth 100000 in
set_option maxHeartbeats 2000000 in
theorem ndel_any (base g n c k : Nat) (M : List Ndm) (w : World) (hn : n = M.length) (hk : k < n) (hm : n ≤ 1000000) (hsl : ∀ m ∈ M, SlN m) (ho : w.ownsRow base 49 13 (.slice (some ⟨g, 0, none⟩) n c) n (cellsN M)) :
    Calls Tryz.prog 113 #[.slice (some ⟨g, 0, none⟩) n c, .int .i64 (k : Int), .int .i64 ((k : Int) + 1)] w fun e w' => e = .returned (.slice (some ⟨g, 0, none⟩) (n - 1) c) ∧ w'.ownsRow base 49 13 (.slice (some ⟨g, 0, none⟩) (n - 1) c) (n - 1) (cellsN (M.take k ++ M.drop (k + 1))) ∧ Fr w.heap.size [g] w w' := by
  obtain ⟨_, _, he, _, hcap, _⟩ := ownsRow_shape ho
  injection he with he1 _ he2
  subst he1
  subst he2
  have hkn : (k : Int) < (n : Int) := by omega
  have hk0 : (0 : Int) ≤ (k : Int) := by omega
  have hk1 : (k : Int) ≤ (k : Int) + 1 := by omega
  have hk2 : (k : Int) + 1 ≤ (n : Int) := by omega
  have hk3 : (0 : Int) ≤ (k : Int) + 1 := by omega
  have hnc : (n : Int) ≤ (c : Int) := by omega
  have hkc : (k : Int) ≤ (c : Int) := by omega
  have hkd : ((k : Int) == (k : Int) + 1) = false := by simp; omega
  have hone := Lib.hid (ndOnes hsl)
  have HO := Lib.hid ho
  have HP := Lib.hid (own_prefix ho k (by omega))
  have HN := Lib.hid hn
  have hnews : ∀ ad : Addr, ad = ⟨g, (k + 1) * 13, none⟩ → ∀ j u, (cellsN (M.drop (k + 1)))[j]? = some u → w.cell? (ad.add j) = some u := by
    rintro ad rfl j u hu
    have : (⟨g, (k + 1) * 13, none⟩ : Addr).add j = ⟨g, (k + 1) * 13 + j, none⟩ := by unfold Addr.add; split <;> simp_all
    rw [this]
    have hj : j < (cellsN (M.drop (k + 1))).length := by
      rcases Nat.lt_or_ge j (cellsN (M.drop (k + 1))).length with h | h
      · exact h
      · rw [List.getElem?_eq_none h] at hu; cases hu
    rw [cellsN_length, List.length_drop] at hj
    rw [ho.cellAt _ (by omega), ← hu, ← ndc_drop M (k + 1) (by omega), List.getElem?_drop]
  have HNEWS := Lib.hid hnews
  have HNL := Lib.hid (show (cellsN (M.drop (k + 1))).length = (n - (k + 1)) * 13 by rw [cellsN_length, List.length_drop, hn])
  have hone2 := Lib.hid (show ∀ u ∈ cellsN (M.drop (k + 1)), u.oneCell' = true from ndOnes fun m hm => hsl m (List.mem_of_mem_drop hm))
  clear ho hn hnews hsl
  have HPD := Lib.hid (show w.drew.ownsRow base 49 13 (.slice (some ⟨g, 0, none⟩) k c) k (cellsN (M.take k)) by rw [← ndc_take]; exact HP.out)
  clear HP hone
  go_enter Tryz.func113, Tryz.ntmps113
  go_upto_region 5 with fail
  have hck : c = k + 1 ∨ ¬ c = k + 1 := Classical.em _
  rcases hck with hck | hck
  case' inl =>
    obtain rfl : n = k + 1 := by omega
    subst hck
    have HNC := Lib.hid (show ∀ j u, ([] : List Value)[j]? = some u → w.drew.cell? ((⟨g, 0, none⟩ : Addr).add j) = some u by
      intro j u hu
      simp at hu)
    have hdn : M.drop (k + 1) = [] := List.drop_eq_nil_of_le (by rw [← HN.out]; exact Nat.le_refl _)
    have HDN := Lib.hid hdn
    clear hdn
    go_region_law (refine step_fits (by rfl) (.tmp 22) (.tmp 25) nodeTy (by rfl) base g k (k + 1) (cellsN (M.take k)) (by rfl) HPD.out ⟨g, 0, none⟩ 0 _ [] (by rfl) (by rfl) HNC.out (by simp) (by omega) ?_; intro w5 ho5 hg5)
    obtain ⟨wz, hcl, hoz, hfz⟩ := run_clear_behind nodeTy (.agg ndZ) (by kernel_rfl) rfl ndz_one ho5 (m := 1) (by omega) 0 (k + 1 - k)
    have HZ := Lib.hid hoz
    have FZ := Lib.hid (((Fr.refl w.heap.size [g] w).drew.trans (Fr.of_grown hg5)).trans (hfz.mono (B' := w.heap.size) (L' := [g]) (by have := hg5.size; simpa using this) (by simp)))
    simp only [Nat.add_zero, Nat.add_sub_cancel_left] at hcl HZ
    clear ho5 hg5 hoz hfz HPD HNC HNEWS hone2 HO
    go_wp2_with fail
    go_ret
    refine ⟨rfl, ?_, FZ.out⟩
    rw [HDN.out, List.append_nil]
    simpa using HZ.out
  case' inr =>
    have HNC := Lib.hid (show ∀ j u, (cellsN (M.drop (k + 1)))[j]? = some u → w.drew.cell? ((⟨g, (k + 1) * 13, none⟩ : Addr).add j) = some u from HNEWS.out _ rfl)
    go_region_law (refine step_fits (by rfl) (.tmp 22) (.tmp 25) nodeTy (by rfl) base g k c (cellsN (M.take k)) (by rfl) HPD.out ⟨g, (k + 1) * 13, none⟩ (n - (k + 1)) _ (cellsN (M.drop (k + 1))) (by rfl) HNL.out HNC.out hone2.out (by omega) ?_; intro w5 ho5 hg5)
    have hsum : k + (n - (k + 1)) = n - 1 := by omega
    rw [hsum] at ho5
    rw [hsum]
    clear hsum
    obtain ⟨q, rfl⟩ : ∃ q, n = q + 1 := ⟨n - 1, by omega⟩
    simp only [Nat.add_sub_cancel] at ho5
    simp only [Nat.add_sub_cancel]
    obtain ⟨wz, hcl, hoz, hfz⟩ := run_clear_behind nodeTy (.agg ndZ) (by kernel_rfl) rfl ndz_one ho5 (m := 1) (by omega) 0 (c - q)
    have HZ := Lib.hid hoz
    have FZ := Lib.hid (((Fr.refl w.heap.size [g] w).drew.trans (Fr.of_grown hg5)).trans (hfz.mono (B' := w.heap.size) (L' := [g]) (by have := hg5.size; simpa using this) (by simp)))
    have hq0 : (0 : Int) ≤ (q : Int) := by omega
    have hqn : (q : Int) ≤ (q : Int) + 1 := by omega
    have hqc : (q : Int) + 1 ≤ (c : Int) := by omega
    have hcq : ¬ c = q := by omega
    clear ho5 hg5 hoz hfz HPD HNC HNEWS hone2 HO
    go_wp2_with fail
    go_ret
    exact ⟨rfl, by rw [ndc_app]; exact HZ.out, FZ.out⟩
end Go.Proofs.YthfibggbipkmfaaGreat
namespace Go.Proofs.YthfibggbipkmfaaGreat
open Go.RowKit Go.Fb
abbrev wkA (v : Value) (kd : Int) (x : Nd) (rs : Bool) (sf sp : Value) (i : Int) : Array Value := #[v, .int .i64 kd, .int .i64 x.id, .int .i64 x.kind, sf, sp, .int .i64 x.par, .int .i64 (x.rt 0), .int .i64 (x.rt 1), .int .i64 (x.rt 2), .int .i64 (x.rt 3), .int .i64 (x.rt 4), .int .i64 (x.rt 5), .int .i64 (x.rt 6), .int .i64 (x.rt 7), .bool rs, .int .i64 i]
/-- A node's two slices lie outside two blocks. -/
structure Apart (gw gr : Nat) (w : World) (m : Ndm) : Prop where
  inn : NdIn w w.heap.size m
  r1 : Off (some gr) m.2.1
  r2 : Off (some gr) m.2.2
  w1 : Off (some gw) m.2.1
  w2 : Off (some gw) m.2.2
theorem Apart.keep {gw gr : Nat} {w w' : World} {m : Ndm} (h : Apart gw gr w m) (hf : Fr w.heap.size [gw, gr] w w') : Apart gw gr w' m := by
  obtain ⟨⟨⟨A, c, h1, h2⟩, ⟨A', c', h3, h4⟩⟩, r1, r2, w1, w2⟩ := h
  refine ⟨⟨⟨A, c, h1, (h2.frL hf (Nat.le_refl _) fun hn ad ha hm => ?_).more hf.size⟩, ⟨A', c', h3, (h4.frL hf (Nat.le_refl _) fun hn ad ha hm => ?_).more hf.size⟩⟩, r1, r2, w1, w2⟩
  · have a1 := r1 A _ c h1 hn ad ha
    have a2 := w1 A _ c h1 hn ad ha
    simp at hm
    rcases hm with hm | hm
    · rw [hm] at a2; exact a2 rfl
    · rw [hm] at a1; exact a1 rfl
  · have a1 := r2 A' _ c' h3 hn ad ha
    have a2 := w2 A' _ c' h3 hn ad ha
    simp at hm
    rcases hm with hm | hm
    · rw [hm] at a2; exact a2 rfl
    · rw [hm] at a1; exact a1 rfl
def SwapOut (k : Int) (b : Bool) (gr o : Nat) (sp : Value) (w : World) (e : Ending) (w' : World) : Prop :=
  (e = .returned (.int .i64 11) ∧ k ≠ 1 ∧ Fr w.heap.size [] w w') ∨ (e = .returned (.int .i64 9) ∧ k = 1 ∧ b = false ∧ Fr w.heap.size [] w w') ∨
      (e = .returned (.int .i64 0) ∧ k = 1 ∧ b = true ∧ ∃ wz, Fr w.heap.size [] w wz ∧ w' = wz.setCell ⟨gr, o + 3, none⟩ sp)
set_option maxRecDepth 100000 in
set_option maxHeartbeats 1000000 in
theorem swap_any (v : Value) (kd : Int) (y : Nd) (rs : Bool) (sf sp : Value) (i : Int) (gw gr o : Nat) (k : Int) (tp : Value) (w : World) (hb : Blk w gw 155 (wkA v kd y rs sf sp i))
    (c1 : w.cell? ⟨gr, o + 1, none⟩ = some (.int .i64 k)) (c3 : w.cell? ⟨gr, o + 3, none⟩ = some tp) (z3 : w.frozen? ⟨gr, o + 3, none⟩ = false) (hlt : gr < w.heap.size) (hst : NdIn w w.heap.size (y, sf, sp)) (h2 : y.pg.length ≤ 1000000) :
    Calls Tryz.prog 112 #[.pointer (some ⟨gw, 0, none⟩), .pointer (some ⟨gr, o, none⟩)] w (SwapOut k (chkL y.pg).isSome gr o sp w) := by
  obtain ⟨_, ⟨Ap, cp, hp1, hp2⟩⟩ := hst
  simp only at hp1 hp2
  subst hp1
  have HS := Lib.hid (safe_any (c := cp) hp2 (Nat.le_refl _) (by unfold maxLen; omega))
  obtain ⟨np, hnp⟩ : ∃ z, z = y.pg.length := ⟨_, rfl⟩
  obtain ⟨b, hbb⟩ : ∃ z, z = (chkL y.pg).isSome := ⟨_, rfl⟩
  rw [← hnp, ← hbb] at HS
  rw [← hbb]
  rw [← hnp] at hb ⊢
  have q5 := hb.cell 5
  simp at q5
  have HC3 := Lib.hid c3
  have HZ3 := Lib.hid z3
  have HB := Lib.hid hb
  clear hp2 hnp hbb hb c3 z3
  by_cases hk : k = 1
  · subst hk
    cases b with
    | false =>
      go_enter Tryz.func112, Tryz.ntmps112
      go_wp2_with fail
      refine HS.out.mono ?_
      rintro e w1 ⟨rfl, f1⟩
      have F1 := Lib.hid f1
      clear f1 HS
      go_wp2_with fail
      go_ret
      exact .inr (.inl ⟨rfl, rfl, rfl, F1.out⟩)
    | true =>
      have Q5 := Lib.hid q5
      go_enter Tryz.func112, Tryz.ntmps112
      go_wp2_with fail
      refine HS.out.mono ?_
      rintro e w1 ⟨rfl, f1⟩
      have F1 := Lib.hid f1
      have r5 := (f1.cell (p := ⟨gw, 5, none⟩) HB.out.lt (by simp)).trans Q5.out
      have r3 := (f1.cell (p := ⟨gr, o + 3, none⟩) hlt (by simp)).trans HC3.out
      have s3 := (f1.frozen (p := ⟨gr, o + 3, none⟩) hlt (by simp)).trans HZ3.out
      clear f1 HS q5 c1
      go_wp2_with fail
      go_ret
      exact .inr (.inr ⟨rfl, rfl, rfl, w1, F1.out, rfl⟩)
  · go_enter Tryz.func112, Tryz.ntmps112
    go_wp2_with fail
    go_ret
    exact .inl ⟨rfl, hk, Fr.refl _ _ _⟩
def AddOut (kd : Int) (y : Nd) (rs : Bool) (sf sp : Value) (i : Int) (gw gr n : Nat) (M : List Ndm) (w : World) (e : Ending) (w' : World) : Prop :=
  (0 ≤ i ∧ e = .returned (.int .i64 13) ∧ Fr w.heap.size [] w w') ∨ (i < 0 ∧ y.kind = 0 ∧ e = .returned (.int .i64 11) ∧ Fr w.heap.size [] w w') ∨
      (i < 0 ∧ y.kind ≠ 0 ∧ e = .returned (.int .i64 0) ∧ ∃ A' c', Blk w' gw 155 (wkA (.slice A' (n + 1) c') kd y rs sf sp i) ∧ w'.ownsRow 0 49 13 (.slice A' (n + 1) c') (n + 1) (cellsN (M ++ [(y, sf, sp)])) ∧ Fr w.heap.size [gw, gr] w w')
set_option maxRecDepth 100000 in
set_option maxHeartbeats 2000000 in
theorem add_any (n c : Nat) (kd : Int) (y : Nd) (rs : Bool) (sf sp : Value) (i : Int) (gw gr : Nat) (M : List Ndm) (w : World) (hb : Blk w gw 155 (wkA (.slice (some ⟨gr, 0, none⟩) n c) kd y rs sf sp i))
    (ho : w.ownsRow 0 49 13 (.slice (some ⟨gr, 0, none⟩) n c) n (cellsN M)) (hn : n ≤ 1000000) (hst : NdIn w w.heap.size (y, sf, sp)) (hne : gw ≠ gr) :
    Calls Tryz.prog 88 #[.pointer (some ⟨gw, 0, none⟩)] w (AddOut kd y rs sf sp i gw gr n M w) := by
  obtain ⟨⟨Af, cf, hf1, _⟩, ⟨Ap, cp, hp1, _⟩⟩ := hst
  simp only at hf1 hp1
  subst hf1
  subst hp1
  obtain ⟨nf, hnf⟩ : ∃ z, z = y.fr.length := ⟨_, rfl⟩
  obtain ⟨np, hnp⟩ : ∃ z, z = y.pg.length := ⟨_, rfl⟩
  rw [← hnf, ← hnp] at hb ⊢
  have HB := Lib.hid hb
  have HO := Lib.hid ho
  have hlw := hb.lt
  have hlr := (ho.lt gr rfl).2
  have q16 := hb.cell 16
  have q3 := hb.cell 3
  simp at q16 q3
  clear hnf hnp hb ho
  by_cases hi : 0 ≤ i
  · go_enter Tryz.func88, Tryz.ntmps88
    go_wp2_with fail
    go_ret
    exact .inl ⟨hi, rfl, Fr.refl _ _ _⟩
  by_cases hk : y.kind = 0
  · have HK := Lib.hid hk
    rw [hk] at q3
    clear hk
    go_enter Tryz.func88, Tryz.ntmps88
    go_wp2_with fail
    go_ret
    exact .inr (.inl ⟨by omega, HK.out, rfl, Fr.refl _ _ _⟩)
  · have HK := Lib.hid hk
    have hkb : (y.kind == 0) = false := by simpa using hk
    have hi2 : i < 0 := by omega
    clear hk
    have q0 := HB.out.cell 0
    have q2 := HB.out.cell 2
    have q4 := HB.out.cell 4
    have q5 := HB.out.cell 5
    have q6 := HB.out.cell 6
    have q7 := HB.out.cell 7
    have q8 := HB.out.cell 8
    have q9 := HB.out.cell 9
    have q10 := HB.out.cell 10
    have q11 := HB.out.cell 11
    have q12 := HB.out.cell 12
    have q13 := HB.out.cell 13
    have q14 := HB.out.cell 14
    simp at q0 q2 q4 q5 q6 q7 q8 q9 q10 q11 q12 q13 q14
    have BN := Lib.hid (Blk.new w.drew 49 (ndA y (.slice Af nf cf) (.slice Ap np cp)))
    have RN := Lib.hid (Reads.of_blk (size := 13) (m := 1) BN.out rfl)
    have HOA := Lib.hid (ownsRow_fr HO.out (((Fr.refl w.heap.size [] w).drew).alloc (Nat.le_refl _) (.cells (ndA y (.slice Af nf cf) (.slice Ap np cp)) 49)) (fun q hq => ⟨(HO.out.lt q hq).2, by simp⟩))
    have HBA := Lib.hid (HB.out.drew.alloc (.cells (ndA y (.slice Af nf cf) (.slice Ap np cp)) 49))
    have FA := Lib.hid (((Fr.refl w.heap.size [gw, gr] w).drew).alloc (Nat.le_refl _) (.cells (ndA y (.slice Af nf cf) (.slice Ap np cp)) 49))
    have hone := Lib.hid (@ndOne y Af Ap nf cf np cp)
    go_enter Tryz.func88, Tryz.ntmps88
    go_upto_region 5 with fail
    go_region_law
      ((refine step_app (by rfl) (.tmp 21) (.tmp 27) nodeTy (by rfl) 0 (.slice (some ⟨gr, 0, none⟩) n c) n _ (by rfl) HOA.out (w.heap.size + 1) (some ⟨w.heap.size, 0, none⟩) 1 1 (ndA y (.slice Af nf cf) (.slice Ap np cp)).toList (by rfl) RN.out hone.out (by omega) (by omega) (by simp) ?_; intro A6 c6 w6 hown6 hg6 hat6; have hfz6 : w6.frozen? ⟨gw, 0, none⟩ = false := (hg6.frozen_far ⟨gw, 0, none⟩ (by simp; omega) (by simp [Value.ownBlock]; exact hne)).trans (HBA.out.frozen 0); have hcl6 : w6.cell? ⟨gw, 0, none⟩ = some (.slice (some ⟨gr, 0, none⟩) n c) := (hg6.cell_far ⟨gw, 0, none⟩ (by simp; omega) (by simp [Value.ownBlock]; exact hne)).trans (HBA.out.cell 0)))
    all_goals
      go_wp2_with fail
      go_ret
      have hb6 := (HBA.out.grown hg6 (by simp [Value.ownBlock]; exact hne)).set_ 0 (.slice A6 (n + 1) c6)
      simp only [List.setIfInBounds_toArray, List.set_cons_zero] at hb6
      have hlt6 := hown6.lt
      have f6 := (Fr.refl w6.heap.size [gw] w6).setCell (p := ⟨gw, 0, none⟩) (.inr (by simp)) (.slice A6 (n + 1) c6)
      have ho6 := ownsRow_fr hown6 f6 (fun q hq => ⟨(hlt6 q hq).2, by
        rw [hq] at hat6
        simp [Value.ownBlock] at hat6
        simp
        rcases hat6 with h | h
        · rw [h]; exact Ne.symm hne
        · omega⟩)
      rw [show cellsN M ++ (ndA y (.slice Af nf cf) (.slice Ap np cp)).toList = cellsN (M ++ [(y, .slice Af nf cf, .slice Ap np cp)]) by rw [cellsN_app]; simp [cellsN, ndL]] at ho6
      exact .inr (.inr ⟨hi2, HK.out, rfl, A6, c6, hb6, ho6, (FA.out.grown hg6 (by simp) (fun q hq => .inr (by simp [Value.ownBlock] at hq; simp [hq]))).setCell (p := ⟨gw, 0, none⟩) (.inr (by simp)) _⟩)
end Go.Proofs.YthfibggbipkmfaaGreat
namespace Go.Proofs.YthfibggbipkmfaaGreat
open Go.RowKit Go.Fb
set_option linter.unusedVariables false
/-- What a step's change leaves. -/
def ChgOut (r : Int × List Nd) (kd : Int) (y : Nd) (rs : Bool) (sf sp : Value) (i : Int) (gw gr : Nat) (w : World) (e : Ending) (w' : World) : Prop :=
  (r.1 ≠ 0 ∧ e = .returned (.int .i64 r.1) ∧ Fr w.heap.size [gw, gr] w w') ∨
  (r.1 = 0 ∧ e = .returned (.int .i64 0) ∧ ∃ A' n' c' M', Blk w' gw 155 (wkA (.slice A' n' c') kd y rs sf sp i) ∧ w'.ownsRow 0 49 13 (.slice A' n' c') n' (cellsN M') ∧ n' = M'.length ∧ (∀ m ∈ M', Apart gw gr w' m) ∧ fstN M' = r.2 ∧ Fr w.heap.size [gw, gr] w w')
/-- What there is ahead of a change. -/
structure Wk (gw gr n c : Nat) (kd : Int) (y : Nd) (rs : Bool) (sf sp : Value) (i : Int) (M : List Ndm) (w : World) : Prop where
  blk : Blk w gw 155 (wkA (.slice (some ⟨gr, 0, none⟩) n c) kd y rs sf sp i)
  own : w.ownsRow 0 49 13 (.slice (some ⟨gr, 0, none⟩) n c) n (cellsN M)
  num : n = M.length
  each : ∀ m ∈ M, Apart gw gr w m
  st : Apart gw gr w (y, sf, sp)
  ne : gw ≠ gr
theorem Wk.keep {gw gr n c : Nat} {kd : Int} {y : Nd} {rs : Bool} {sf sp : Value} {i : Int} {M : List Ndm} {w w' : World} (h : Wk gw gr n c kd y rs sf sp i M w) (hf : Fr w.heap.size [] w w') : Wk gw gr n c kd y rs sf sp i M w' :=
  ⟨h.blk.fr hf h.blk.lt (by simp), ownsRow_fr h.own hf (fun q hq => ⟨(h.own.lt q hq).2, by simp⟩), h.num, fun m hm => (h.each m hm).keep (hf.mono (Nat.le_refl _) (by simp)), h.st.keep (hf.mono (Nat.le_refl _) (by simp)), h.ne⟩
theorem Wk.nds {gw gr n c : Nat} {kd : Int} {y : Nd} {rs : Bool} {sf sp : Value} {i : Int} {M : List Ndm} {w : World} (h : Wk gw gr n c kd y rs sf sp i M w) : Nds w w.heap.size (some ⟨gr, 0, none⟩) n M :=
  ⟨h.num, Reads.of_own h.own, fun m hm => (h.each m hm).inn⟩
theorem find_here {M : List Ndm} {k : Nat} {m : Ndm} {id : Int} (hu : (idsN (fstN M)).Nodup) (hk : M[k]? = some m) (hid : m.1.id = id) : findN (fstN M) id = some m.1 := by
  rw [← hid]
  exact findN_one hu (List.mem_map.2 ⟨m, List.mem_of_getElem? hk, rfl⟩)
theorem ids_apart {M : List Ndm} (hu : (idsN (fstN M)).Nodup) {k j : Nat} {a b : Ndm} (ha : M[k]? = some a) (hb : M[j]? = some b) (h : a.1.id = b.1.id) : k = j := by
  have h1 : (idsN (fstN M))[k]? = some a.1.id := by simp [idsN, fstN, ha]
  have h2 : (idsN (fstN M))[j]? = some b.1.id := by simp [idsN, fstN, hb]
  rw [h] at h1
  obtain ⟨hk, e1⟩ := List.getElem?_eq_some_iff.1 h1
  obtain ⟨hj, e2⟩ := List.getElem?_eq_some_iff.1 h2
  exact (List.getElem_inj hu).1 (e1.trans e2.symm)
theorem upd_here {M : List Ndm} {k : Nat} {m : Ndm} {id : Int} (hu : (idsN (fstN M)).Nodup) (hk : M[k]? = some m) (hid : m.1.id = id) (f : Nd → Nd) (tf tp : Value) : fstN (M.set k (f m.1, tf, tp)) = updN (fstN M) id f := by
  apply List.ext_getElem?
  intro j
  have hkl : k < M.length := (List.getElem?_eq_some_iff.1 hk).1
  unfold updN fstN
  rw [List.getElem?_map, List.getElem?_map, List.getElem?_map]
  by_cases hj : k = j
  · subst hj
    rw [List.getElem?_set_self hkl, hk]
    simp [hid]
  · rw [List.getElem?_set_ne hj]
    cases h : M[j]? with
    | none => rfl
    | some b =>
      have : b.1.id ≠ id := fun e => hj (ids_apart hu hk h (hid.trans e.symm))
      simp [this]
theorem del_here {M : List Ndm} {k : Nat} {m : Ndm} {id : Int} (hu : (idsN (fstN M)).Nodup) (hk : M[k]? = some m) (hid : m.1.id = id) : fstN (M.take k ++ M.drop (k + 1)) = delN (fstN M) id := by
  have hkl : k < M.length := (List.getElem?_eq_some_iff.1 hk).1
  have hsp : M = M.take k ++ m :: M.drop (k + 1) := by
    rw [show m = M[k] from (List.getElem?_eq_some_iff.1 hk).2.symm, ← List.drop_eq_getElem_cons hkl, List.take_append_drop]
  have ht : ∀ b ∈ M.take k, b.1.id ≠ id := fun b hb e => by
    obtain ⟨j, hj, rfl⟩ := List.mem_iff_getElem.1 hb
    rw [List.length_take] at hj
    have := ids_apart hu hk (List.getElem?_eq_getElem (show j < M.length by omega)) (by rw [hid, ← e, List.getElem_take])
    omega
  have hd : ∀ b ∈ M.drop (k + 1), b.1.id ≠ id := fun b hb e => by
    obtain ⟨j, hj, rfl⟩ := List.mem_iff_getElem.1 hb
    rw [List.length_drop] at hj
    have := ids_apart hu hk (List.getElem?_eq_getElem (show k + 1 + j < M.length by omega)) (by rw [hid, ← e, List.getElem_drop])
    omega
  unfold delN fstN
  conv => rhs; rw [hsp]
  rw [List.map_append, List.map_append, List.filter_append, List.map_cons, List.filter_cons]
  rw [if_neg (by simp [hid]), List.filter_eq_self.2 (by
    intro x hx
    obtain ⟨b, hb, rfl⟩ := List.mem_map.1 hx
    simpa using ht b hb), List.filter_eq_self.2 (by
    intro x hx
    obtain ⟨b, hb, rfl⟩ := List.mem_map.1 hx
    simpa using hd b hb)]
/-- One cell of a node in a row is stored. -/
theorem nd_set {w : World} {gr n c k j : Nat} {M : List Ndm} {m m' : Ndm} {u : Value} (ho : w.ownsRow 0 49 13 (.slice (some ⟨gr, 0, none⟩) n c) n (cellsN M)) (hk : M[k]? = some m) (hj : j < 13) (hu : ndL m' = (ndL m).set j u) :
    (w.setCell ⟨gr, k * 13 + j, none⟩ u).ownsRow 0 49 13 (.slice (some ⟨gr, 0, none⟩) n c) n (cellsN (M.set k m')) := by
  have h := ownsRow_setN ho (k * 13 + j) u
  have hkl : k < M.length := (List.getElem?_eq_some_iff.1 hk).1
  rw [show cellsN (M.set k m') = (cellsN M).set (k * 13 + j) u by
    apply List.ext_getElem?
    intro q
    have hl : (cellsN M).length = M.length * 13 := cellsN_length M
    rcases Nat.lt_or_ge q (M.length * 13) with hq | hq
    · have hq13 : q / 13 < M.length := by omega
      obtain ⟨a, ha⟩ : ∃ a, M[q / 13]? = some a := ⟨_, List.getElem?_eq_getElem hq13⟩
      have hqe : q = q / 13 * 13 + q % 13 := by omega
      by_cases hkq : k = q / 13
      · have e1 : (cellsN (M.set k m'))[q]? = (ndL m')[q % 13]? := by
          conv => lhs; rw [hqe]
          exact cellsN_get (by rw [← hkq, List.getElem?_set_self hkl]) _ (by omega)
        have e2 : (cellsN M)[q]? = (ndL m)[q % 13]? := by
          conv => lhs; rw [hqe]
          exact cellsN_get (by rw [← hkq]; exact hk) _ (by omega)
        rw [e1, hu]
        by_cases hjq : j = q % 13
        · rw [← hjq, List.getElem?_set_self (by simp [ndL]; omega), show q = k * 13 + j by omega, List.getElem?_set_self (by rw [hl]; omega)]
        · rw [List.getElem?_set_ne hjq, List.getElem?_set_ne (by omega), e2]
      · have e1 : (cellsN (M.set k m'))[q]? = (ndL a)[q % 13]? := by
          conv => lhs; rw [hqe]
          exact cellsN_get (by rw [List.getElem?_set_ne hkq]; exact ha) _ (by omega)
        have e2 : (cellsN M)[q]? = (ndL a)[q % 13]? := by
          conv => lhs; rw [hqe]
          exact cellsN_get ha _ (by omega)
        rw [e1, List.getElem?_set_ne (by omega), e2]
    · rw [List.getElem?_eq_none (by rw [cellsN_length, List.length_set]; exact hq), List.getElem?_eq_none (by rw [List.length_set, hl]; exact hq)]]
  exact h
theorem setAt_left (b : List Value) (o : Nat) : ∀ (us : List Value) (a : List Value) (j : Nat), o + j + us.length ≤ a.length → setAt (a ++ b) o j us = setAt a o j us ++ b
  | [], _, _, _ => rfl
  | u :: us, a, j, h => by
    have h1 : us.length + 1 + (o + j) ≤ a.length := by rw [List.length_cons] at h; omega
    show setAt ((a ++ b).set (o + j) u) o (j + 1) us = setAt (a.set (o + j) u) o (j + 1) us ++ b
    rw [List.set_append_left _ _ (by omega)]
    exact setAt_left b o us _ _ (by rw [List.length_set]; omega)
theorem cells_put {M : List Ndm} {k : Nat} {m m' : Ndm} (hk : M[k]? = some m) (o : Nat) (us : List Value) (ho : o + us.length ≤ 13) (hm : ndL m' = setAt (ndL m) o 0 us) : cellsN (M.set k m') = setAt (cellsN M) (k * 13 + o) 0 us := by
  have hkl : k < M.length := (List.getElem?_eq_some_iff.1 hk).1
  have hsp : M = M.take k ++ m :: M.drop (k + 1) := by
    rw [show m = M[k] from (List.getElem?_eq_some_iff.1 hk).2.symm, ← List.drop_eq_getElem_cons hkl, List.take_append_drop]
  have h1 : cellsN M = cellsN (M.take k) ++ (ndL m ++ cellsN (M.drop (k + 1))) := by
    conv => lhs; rw [hsp]
    rw [cellsN_app]
    rfl
  have h2 : cellsN (M.set k m') = cellsN (M.take k) ++ (ndL m' ++ cellsN (M.drop (k + 1))) := by
    rw [List.set_eq_take_append_cons_drop, if_pos hkl, cellsN_app]
    rfl
  have hl : k * 13 = (cellsN (M.take k)).length := by rw [cellsN_length, List.length_take]; omega
  rw [h1, h2, hl, setAt_app, setAt_left _ _ _ _ _ (by have : (ndL m).length = 13 := rfl; omega), hm]
theorem far_setW {g k t : Nat} (hk : k ≠ g) (o : Nat) : ∀ (us : List Value) (j : Nat) (w : World) {cs : Array Value}, Blk w k t cs → Blk (setW w g o j us) k t cs
  | [], _, _, _, h => h
  | u :: us, j, w, _, h => far_setW hk o us (j + 1) _ (h.far (p := ⟨g, o + j, none⟩) hk u)
theorem nest_nine (w : World) (g o : Nat) (u4 u5 u6 u7 u8 u9 u10 u11 u12 : Value) : ((((((((w.setCell ⟨g, o + 4, none⟩ u4).setCell ⟨g, o + 5, none⟩ u5).setCell ⟨g, o + 5 + 1, none⟩ u6).setCell ⟨g, o + 5 + 2, none⟩ u7).setCell ⟨g, o + 5 + 3, none⟩ u8).setCell ⟨g, o + 5 + 4, none⟩ u9).setCell ⟨g, o + 5 + 5, none⟩ u10).setCell ⟨g, o + 5 + 6, none⟩ u11).setCell ⟨g, o + 5 + 7, none⟩ u12 = setW w g (o + 4) 0 [u4, u5, u6, u7, u8, u9, u10, u11, u12] := by
  simp only [setW, Nat.add_assoc, Nat.reduceAdd, Nat.add_zero]
set_option maxRecDepth 100000 in
theorem change_none (gw gr n c : Nat) (kd : Int) (y : Nd) (rs : Bool) (sf sp : Value) (i : Int) (M : List Ndm) (w : World) (h : Wk gw gr n c kd y rs sf sp i M w) (hi : i < 0) :
    Calls Tryz.prog 89 #[.pointer (some ⟨gw, 0, none⟩)] w (ChgOut (12, []) kd y rs sf sp i gw gr w) := by
  have q16 := h.blk.cell 16
  simp at q16
  clear h
  go_enter Tryz.func89, Tryz.ntmps89
  go_wp2_with fail
  go_ret
  exact .inl ⟨by simp, rfl, Fr.refl _ _ _⟩
set_option maxRecDepth 100000 in
set_option maxHeartbeats 2000000 in
theorem change_swap (gw gr n c k : Nat) (y : Nd) (rs : Bool) (sf sp : Value) (M : List Ndm) (m : Ndm) (w : World) (h : Wk gw gr n c 1 y rs sf sp k M w) (hk : M[k]? = some m) (hid : m.1.id = y.id) (hu : (idsN (fstN M)).Nodup) (h2 : y.pg.length ≤ 1000000) :
    Calls Tryz.prog 89 #[.pointer (some ⟨gw, 0, none⟩)] w (ChgOut (chgN (fstN M) ⟨1, y, rs⟩) 1 y rs sf sp k gw gr w) := by
  have hkl : k < M.length := (List.getElem?_eq_some_iff.1 hk).1
  have q16 := h.blk.cell 16
  have q0 := h.blk.cell 0
  have q1 := h.blk.cell 1
  simp at q16 q0 q1
  obtain ⟨x, tf, tp⟩ := m
  simp only at hid
  obtain ⟨g0, g1, g2, g3, g4, g5, g6, g7, g8, g9, g10, g11, g12⟩ := ndL_get (x, tf, tp)
  have HSW := Lib.hid (fun (wx : World) (hx : Fr w.heap.size [] w wx) => (swap_any (.slice (some ⟨gr, 0, none⟩) n c) 1 y rs sf sp k gw gr (k * 13) x.kind tp wx (h.keep hx).blk (nd_cell (h.keep hx).own hk 1 _ g1) (nd_cell (h.keep hx).own hk 3 _ g3) ((h.keep hx).own.frozenAt _) (((h.keep hx).own.lt gr rfl).2) (h.keep hx).st.inn h2))
  obtain ⟨r, hr⟩ : ∃ r, r = chgN (fstN M) ⟨1, y, rs⟩ := ⟨_, rfl⟩
  have HR := Lib.hid (show r = if x.kind = 1 then (if (chkL y.pg).isSome = true then (0, updN (fstN M) y.id (pgN y.pg)) else (9, [])) else (11, []) by
    rw [hr]
    unfold chgN
    rw [find_here hu hk hid]
    simp)
  rw [← hr]
  have HUP := Lib.hid (upd_here hu hk hid (pgN y.pg) tf sp)
  have HK := Lib.hid hk
  have H := Lib.hid h
  have hk0 : (0 : Int) ≤ (k : Int) := by omega
  have hkn : (k : Int) < (n : Int) := by have := h.num; omega
  have HKL := Lib.hid hkl
  clear h hk hid hu g0 g1 g2 g3 g4 g5 g6 g7 g8 g9 g10 g11 g12 hkl hr
  go_enter Tryz.func89, Tryz.ntmps89
  go_upto_region 3 with fail
  go_region
  have q1' : w.drew.cell? ⟨gw, 1, none⟩ = some (.int .i64 1) := q1
  go_wp2_with fail
  refine (HSW.out _ (Fr.refl _ _ _).drew).mono ?_
  rintro e w1 h1
  have hf0 := (Fr.refl w.heap.size [] w).drew
  rcases h1 with ⟨rfl, e1, f1⟩ | ⟨rfl, e1, e2, f1⟩ | ⟨rfl, e1, e2, wz, f1, rfl⟩
  · have HR1 := Lib.hid (show r = (11, []) by rw [HR.out, if_neg e1])
    have F1 := Lib.hid ((hf0.trans f1).mono (B' := w.heap.size) (L' := [gw, gr]) (Nat.le_refl _) (by simp))
    clear f1 hf0 HR
    go_wp2_with fail
    go_ret
    rw [HR1.out]
    exact .inl ⟨by simp, rfl, F1.out⟩
  · have HR1 := Lib.hid (show r = (9, []) by rw [HR.out, if_pos e1, e2]; rfl)
    have F1 := Lib.hid ((hf0.trans f1).mono (B' := w.heap.size) (L' := [gw, gr]) (Nat.le_refl _) (by simp))
    clear f1 hf0 HR e2
    go_wp2_with fail
    go_ret
    rw [HR1.out]
    exact .inl ⟨by simp, rfl, F1.out⟩
  · have HR1 := Lib.hid (show r = (0, updN (fstN M) y.id (pgN y.pg)) by rw [HR.out, if_pos e1, if_pos e2])
    have hf1 := hf0.trans f1
    have hwk := H.out.keep hf1
    have f2 := (Fr.refl wz.heap.size [gw, gr] wz).setCell (p := ⟨gr, k * 13 + 3, none⟩) (.inr (by simp)) sp
    have ho2 := nd_set (m' := (pgN y.pg x, tf, sp)) (u := sp) hwk.own HK.out (j := 3) (by omega) rfl
    have HO2 := Lib.hid ho2
    have HB2 := Lib.hid (hwk.blk.far (p := ⟨gr, k * 13 + 3, none⟩) hwk.ne sp)
    have HA2 := Lib.hid (show ∀ m' ∈ M.set k (pgN y.pg x, tf, sp), Apart gw gr (wz.setCell ⟨gr, k * 13 + 3, none⟩ sp) m' from fun m' hm' => by
      rcases List.mem_or_eq_of_mem_set hm' with hm' | rfl
      · exact (hwk.each m' hm').keep f2
      · have a := (hwk.each _ (List.mem_of_getElem? HK.out)).keep f2
        have b := hwk.st.keep f2
        exact ⟨⟨a.inn.fr, b.inn.pg⟩, a.r1, b.r2, a.w1, b.w2⟩)
    have F2 := Lib.hid ((hf1.mono (B' := w.heap.size) (L' := [gw, gr]) (Nat.le_refl _) (by simp)).trans (f2.mono (B' := w.heap.size) (L' := [gw, gr]) hf1.size (by simp)))
    have HN := Lib.hid (show n = (M.set k (pgN y.pg x, tf, sp)).length by rw [List.length_set]; exact hwk.num)
    clear ho2 hwk f2 hf1 hf0 f1 HR e2 q1'
    generalize wz.setCell ⟨gr, k * 13 + 3, none⟩ sp = w2 at *
    go_wp2_with fail
    go_ret
    rw [HR1.out]
    exact .inr ⟨rfl, rfl, _, n, c, _, HB2.out, HO2.out, HN.out, HA2.out, HUP.out, F2.out⟩
set_option maxRecDepth 100000 in
set_option maxHeartbeats 2000000 in
theorem change_link (gw gr n c k : Nat) (y : Nd) (rs : Bool) (sf sp : Value) (M : List Ndm) (m : Ndm) (w : World) (h : Wk gw gr n c 5 y rs sf sp k M w) (hk : M[k]? = some m) (hid : m.1.id = y.id) (hu : (idsN (fstN M)).Nodup) :
    Calls Tryz.prog 89 #[.pointer (some ⟨gw, 0, none⟩)] w (ChgOut (chgN (fstN M) ⟨5, y, rs⟩) 5 y rs sf sp k gw gr w) := by
  have hkl : k < M.length := (List.getElem?_eq_some_iff.1 hk).1
  obtain ⟨x, tf, tp⟩ := m
  simp only at hid
  obtain ⟨g0, g1, g2, g3, g4, g5, g6, g7, g8, g9, g10, g11, g12⟩ := ndL_get (x, tf, tp)
  obtain ⟨r, hr⟩ : ∃ r, r = chgN (fstN M) ⟨5, y, rs⟩ := ⟨_, rfl⟩
  have HR := Lib.hid (show r = if x.kind = 2 then (0, updN (fstN M) y.id (frN y.fr)) else (11, []) by
    rw [hr]
    unfold chgN
    rw [find_here hu hk hid]
    simp)
  rw [← hr]
  have HUP := Lib.hid (upd_here hu hk hid (frN y.fr) sf tp)
  obtain ⟨⟨Af, cf, hf1, _⟩, _⟩ := h.st.inn
  simp only at hf1
  subst hf1
  obtain ⟨nf, hnf⟩ : ∃ z, z = y.fr.length := ⟨_, rfl⟩
  rw [← hnf] at h HUP ⊢
  clear hnf
  have q16 := h.blk.cell 16
  have q0 := h.blk.cell 0
  have q1 := h.blk.cell 1
  have q4 := h.blk.cell 4
  simp at q16 q0 q1 q4
  have r1 := nd_cell h.own hk 1 _ g1
  have r2 := nd_cell h.own hk 2 _ g2
  have z2 := h.own.frozenAt (k * 13 + 2)
  have HK := Lib.hid hk
  have H := Lib.hid h
  have hk0 : (0 : Int) ≤ (k : Int) := by omega
  have hkn : (k : Int) < (n : Int) := by have := h.num; omega
  clear h hk hid hu g0 g1 g2 g3 g4 g5 g6 g7 g8 g9 g10 g11 g12 hkl hr
  go_enter Tryz.func89, Tryz.ntmps89
  go_upto_region 3 with fail
  go_region
  have HQ := Lib.hid q0
  have HWD := Lib.hid (H.out.keep (Fr.refl w.heap.size [] w).drew)
  have F0 := Lib.hid (Fr.refl w.heap.size [gw, gr] w).drew
  replace q1 : w.drew.cell? ⟨gw, 1, none⟩ = some (.int .i64 5) := q1
  replace q4 : w.drew.cell? ⟨gw, 4, none⟩ = some (.slice Af nf cf) := q4
  replace r1 : w.drew.cell? ⟨gr, k * 13 + 1, none⟩ = some (.int .i64 x.kind) := r1
  replace r2 : w.drew.cell? ⟨gr, k * 13 + 2, none⟩ = some tf := r2
  replace z2 : w.drew.frozen? ⟨gr, k * 13 + 2, none⟩ = false := z2
  clear H
  generalize w.drew = wz at *
  by_cases hx : x.kind = 2
  · have HR1 := Lib.hid (show r = (0, updN (fstN M) y.id (frN y.fr)) by rw [HR.out, if_pos hx])
    rw [hx] at r1
    have hwk := HWD.out
    have f2 := (Fr.refl wz.heap.size [gw, gr] wz).setCell (p := ⟨gr, k * 13 + 2, none⟩) (.inr (by simp)) (.slice Af nf cf)
    have HO2 := Lib.hid (nd_set (m' := (frN y.fr x, .slice Af nf cf, tp)) (u := .slice Af nf cf) hwk.own HK.out (j := 2) (by omega) rfl)
    have HB2 := Lib.hid (hwk.blk.far (p := ⟨gr, k * 13 + 2, none⟩) hwk.ne (.slice Af nf cf))
    have HA2 := Lib.hid (show ∀ m' ∈ M.set k (frN y.fr x, .slice Af nf cf, tp), Apart gw gr (wz.setCell ⟨gr, k * 13 + 2, none⟩ (.slice Af nf cf)) m' from fun m' hm' => by
      rcases List.mem_or_eq_of_mem_set hm' with hm' | rfl
      · exact (hwk.each m' hm').keep f2
      · have a := (hwk.each _ (List.mem_of_getElem? HK.out)).keep f2
        have b := hwk.st.keep f2
        exact ⟨⟨b.inn.fr, a.inn.pg⟩, b.r1, a.r2, b.w1, a.w2⟩)
    have F2 := Lib.hid (F0.out.trans (f2.mono (B' := w.heap.size) (L' := [gw, gr]) F0.out.size (by simp)))
    have HN := Lib.hid (show n = (M.set k (frN y.fr x, .slice Af nf cf, tp)).length by rw [List.length_set]; exact hwk.num)
    clear hwk f2 HR HWD F0 hx
    go_wp2_with fail
    go_ret
    rw [HR1.out]
    exact .inr ⟨rfl, rfl, _, n, c, _, HB2.out, HO2.out, HN.out, HA2.out, HUP.out, F2.out⟩
  · have HR1 := Lib.hid (show r = (11, []) by rw [HR.out, if_neg hx])
    have hkb := kd_ne hx
    clear HR hx
    go_wp2_with fail
    go_ret
    rw [HR1.out]
    exact .inl ⟨by simp, rfl, F0.out⟩
set_option maxRecDepth 100000 in
set_option maxHeartbeats 4000000 in
theorem change_route (gw gr n c k : Nat) (y : Nd) (rs : Bool) (sf sp : Value) (M : List Ndm) (m : Ndm) (w : World) (h : Wk gw gr n c 4 y rs sf sp k M w) (hk : M[k]? = some m) (hid : m.1.id = y.id) (hu : (idsN (fstN M)).Nodup) :
    Calls Tryz.prog 89 #[.pointer (some ⟨gw, 0, none⟩)] w (ChgOut (chgN (fstN M) ⟨4, y, rs⟩) 4 y rs sf sp k gw gr w) := by
  have hkl : k < M.length := (List.getElem?_eq_some_iff.1 hk).1
  obtain ⟨x, tf, tp⟩ := m
  simp only at hid
  obtain ⟨g0, g1, g2, g3, g4, g5, g6, g7, g8, g9, g10, g11, g12⟩ := ndL_get (x, tf, tp)
  obtain ⟨r, hr⟩ : ∃ r, r = chgN (fstN M) ⟨4, y, rs⟩ := ⟨_, rfl⟩
  have HR := Lib.hid (show r = if x.kind = 0 then (11, []) else (0, updN (fstN M) y.id (rtN y.par y.rt)) by
    rw [hr]
    unfold chgN
    rw [find_here hu hk hid]
    simp)
  rw [← hr]
  have HUP := Lib.hid (upd_here hu hk hid (rtN y.par y.rt) tf tp)
  have q16 := h.blk.cell 16
  have q0 := h.blk.cell 0
  have q1 := h.blk.cell 1
  have q6 := h.blk.cell 6
  have q7 := h.blk.cell 7
  have q8 := h.blk.cell 8
  have q9 := h.blk.cell 9
  have q10 := h.blk.cell 10
  have q11 := h.blk.cell 11
  have q12 := h.blk.cell 12
  have q13 := h.blk.cell 13
  have q14 := h.blk.cell 14
  simp at q16 q0 q1 q6 q7 q8 q9 q10 q11 q12 q13 q14
  have r1 := nd_cell h.own hk 1 _ g1
  have r4 := nd_cell h.own hk 4 _ g4
  have r5 := nd_cell h.own hk 5 _ g5
  have r6 := nd_cell h.own hk 6 _ g6
  have r7 := nd_cell h.own hk 7 _ g7
  have r8 := nd_cell h.own hk 8 _ g8
  have r9 := nd_cell h.own hk 9 _ g9
  have r10 := nd_cell h.own hk 10 _ g10
  have r11 := nd_cell h.own hk 11 _ g11
  have r12 := nd_cell h.own hk 12 _ g12
  have z4 := h.own.frozenAt (k * 13 + 4)
  have z5 := h.own.frozenAt (k * 13 + 5)
  have z6 := h.own.frozenAt (k * 13 + 6)
  have z7 := h.own.frozenAt (k * 13 + 7)
  have z8 := h.own.frozenAt (k * 13 + 8)
  have z9 := h.own.frozenAt (k * 13 + 9)
  have z10 := h.own.frozenAt (k * 13 + 10)
  have z11 := h.own.frozenAt (k * 13 + 11)
  have z12 := h.own.frozenAt (k * 13 + 12)
  have HK := Lib.hid hk
  have H := Lib.hid h
  have hk0 : (0 : Int) ≤ (k : Int) := by omega
  have hkn : (k : Int) < (n : Int) := by have := h.num; omega
  clear h hk hid hu g0 g1 g2 g3 g4 g5 g6 g7 g8 g9 g10 g11 g12 hkl hr
  go_enter Tryz.func89, Tryz.ntmps89
  go_upto_region 3 with fail
  go_region
  have HQ := Lib.hid q0
  have HWD := Lib.hid (H.out.keep (Fr.refl w.heap.size [] w).drew)
  have F0 := Lib.hid (Fr.refl w.heap.size [gw, gr] w).drew
  replace q1 : w.drew.cell? ⟨gw, 1, none⟩ = some (.int .i64 4) := q1
  replace q6 : w.drew.cell? ⟨gw, 6, none⟩ = some (.int .i64 y.par) := q6
  replace q7 : w.drew.cell? ⟨gw, 7, none⟩ = some (.int .i64 (y.rt 0)) := q7
  replace q8 : w.drew.cell? ⟨gw, 8, none⟩ = some (.int .i64 (y.rt 1)) := q8
  replace q9 : w.drew.cell? ⟨gw, 9, none⟩ = some (.int .i64 (y.rt 2)) := q9
  replace q10 : w.drew.cell? ⟨gw, 10, none⟩ = some (.int .i64 (y.rt 3)) := q10
  replace q11 : w.drew.cell? ⟨gw, 11, none⟩ = some (.int .i64 (y.rt 4)) := q11
  replace q12 : w.drew.cell? ⟨gw, 12, none⟩ = some (.int .i64 (y.rt 5)) := q12
  replace q13 : w.drew.cell? ⟨gw, 13, none⟩ = some (.int .i64 (y.rt 6)) := q13
  replace q14 : w.drew.cell? ⟨gw, 14, none⟩ = some (.int .i64 (y.rt 7)) := q14
  replace r1 : w.drew.cell? ⟨gr, k * 13 + 1, none⟩ = some (.int .i64 x.kind) := r1
  replace r4 : w.drew.cell? ⟨gr, k * 13 + 4, none⟩ = some (.int .i64 x.par) := r4
  replace r5 : w.drew.cell? ⟨gr, k * 13 + 5, none⟩ = some (.int .i64 (x.rt 0)) := r5
  replace r6 : w.drew.cell? ⟨gr, k * 13 + 6, none⟩ = some (.int .i64 (x.rt 1)) := r6
  replace r7 : w.drew.cell? ⟨gr, k * 13 + 7, none⟩ = some (.int .i64 (x.rt 2)) := r7
  replace r8 : w.drew.cell? ⟨gr, k * 13 + 8, none⟩ = some (.int .i64 (x.rt 3)) := r8
  replace r9 : w.drew.cell? ⟨gr, k * 13 + 9, none⟩ = some (.int .i64 (x.rt 4)) := r9
  replace r10 : w.drew.cell? ⟨gr, k * 13 + 10, none⟩ = some (.int .i64 (x.rt 5)) := r10
  replace r11 : w.drew.cell? ⟨gr, k * 13 + 11, none⟩ = some (.int .i64 (x.rt 6)) := r11
  replace r12 : w.drew.cell? ⟨gr, k * 13 + 12, none⟩ = some (.int .i64 (x.rt 7)) := r12
  replace z4 : w.drew.frozen? ⟨gr, k * 13 + 4, none⟩ = false := z4
  replace z5 : w.drew.frozen? ⟨gr, k * 13 + 5, none⟩ = false := z5
  replace z6 : w.drew.frozen? ⟨gr, k * 13 + 6, none⟩ = false := z6
  replace z7 : w.drew.frozen? ⟨gr, k * 13 + 7, none⟩ = false := z7
  replace z8 : w.drew.frozen? ⟨gr, k * 13 + 8, none⟩ = false := z8
  replace z9 : w.drew.frozen? ⟨gr, k * 13 + 9, none⟩ = false := z9
  replace z10 : w.drew.frozen? ⟨gr, k * 13 + 10, none⟩ = false := z10
  replace z11 : w.drew.frozen? ⟨gr, k * 13 + 11, none⟩ = false := z11
  replace z12 : w.drew.frozen? ⟨gr, k * 13 + 12, none⟩ = false := z12
  clear H
  generalize w.drew = wz at *
  by_cases hx : x.kind = 0
  · have HR1 := Lib.hid (show r = (11, []) by rw [HR.out, if_pos hx])
    rw [hx] at r1
    clear HR hx
    go_wp2_with fail
    go_ret
    rw [HR1.out]
    exact .inl ⟨by simp, rfl, F0.out⟩
  · have HR1 := Lib.hid (show r = (0, updN (fstN M) y.id (rtN y.par y.rt)) by rw [HR.out, if_neg hx])
    have hkb := kd_ne hx
    have hne := HWD.out.ne
    clear HR hx
    go_upto_region 17 with fail
    go_region
    rw [nest_nine]
    have hwk := HWD.out
    have f2 := fr_setW (B := wz.heap.size) (g := gr) (o := k * 13 + 4) (L := [gw, gr]) (a := wz) (.inr (by simp)) [.int .i64 y.par, .int .i64 (y.rt 0), .int .i64 (y.rt 1), .int .i64 (y.rt 2), .int .i64 (y.rt 3), .int .i64 (y.rt 4), .int .i64 (y.rt 5), .int .i64 (y.rt 6), .int .i64 (y.rt 7)] 0 wz (Fr.refl _ _ _)
    have ho2 := owns_setW (o := k * 13 + 4) [.int .i64 y.par, .int .i64 (y.rt 0), .int .i64 (y.rt 1), .int .i64 (y.rt 2), .int .i64 (y.rt 3), .int .i64 (y.rt 4), .int .i64 (y.rt 5), .int .i64 (y.rt 6), .int .i64 (y.rt 7)] 0 wz _ hwk.own
    rw [← cells_put (m' := (rtN y.par y.rt x, tf, tp)) HK.out 4 [.int .i64 y.par, .int .i64 (y.rt 0), .int .i64 (y.rt 1), .int .i64 (y.rt 2), .int .i64 (y.rt 3), .int .i64 (y.rt 4), .int .i64 (y.rt 5), .int .i64 (y.rt 6), .int .i64 (y.rt 7)] (by simp) rfl] at ho2
    have HO2 := Lib.hid ho2
    have HB2 := Lib.hid (far_setW hwk.ne (k * 13 + 4) [.int .i64 y.par, .int .i64 (y.rt 0), .int .i64 (y.rt 1), .int .i64 (y.rt 2), .int .i64 (y.rt 3), .int .i64 (y.rt 4), .int .i64 (y.rt 5), .int .i64 (y.rt 6), .int .i64 (y.rt 7)] 0 wz hwk.blk)
    obtain ⟨wq, hwq⟩ : ∃ wq, wq = setW wz gr (k * 13 + 4) 0 [.int .i64 y.par, .int .i64 (y.rt 0), .int .i64 (y.rt 1), .int .i64 (y.rt 2), .int .i64 (y.rt 3), .int .i64 (y.rt 4), .int .i64 (y.rt 5), .int .i64 (y.rt 6), .int .i64 (y.rt 7)] := ⟨_, rfl⟩
    rw [← hwq] at f2 HO2 HB2 ⊢
    have HA2 := Lib.hid (show ∀ m' ∈ M.set k (rtN y.par y.rt x, tf, tp), Apart gw gr wq m' from fun m' hm' => by
      rcases List.mem_or_eq_of_mem_set hm' with hm' | rfl
      · exact (hwk.each m' hm').keep f2
      · have a := (hwk.each _ (List.mem_of_getElem? HK.out)).keep f2
        exact ⟨⟨a.inn.fr, a.inn.pg⟩, a.r1, a.r2, a.w1, a.w2⟩)
    have F2 := Lib.hid (F0.out.trans (f2.mono (B' := w.heap.size) (L' := [gw, gr]) F0.out.size (by simp)))
    have HN := Lib.hid (show n = (M.set k (rtN y.par y.rt x, tf, tp)).length by rw [List.length_set]; exact hwk.num)
    clear hwk f2 HWD F0 ho2 hwq
    go_wp2_with fail
    go_ret
    rw [HR1.out]
    exact .inr ⟨rfl, rfl, _, n, c, _, HB2.out, HO2.out, HN.out, fun m hm => (HA2.out m hm).keep (Fr.refl _ _ _).drew, HUP.out, F2.out.drew⟩
end Go.Proofs.YthfibggbipkmfaaGreat
namespace Go.Proofs.YthfibggbipkmfaaGreat
open Go.RowKit Go.Fb
set_option linter.unusedVariables false
theorem slN_of {w : World} {B : Nat} {m : Ndm} (h : NdIn w B m) : SlN m := by
  obtain ⟨⟨A, c, h1, _⟩, ⟨A', c', h3, _⟩⟩ := h
  exact ⟨A, _, c, A', _, c', h1, h3⟩
set_option maxRecDepth 100000 in
set_option maxHeartbeats 4000000 in
theorem change_remove (gw gr n c k : Nat) (y : Nd) (rs : Bool) (sf sp : Value) (M : List Ndm) (m : Ndm) (w : World) (h : Wk gw gr n c 3 y rs sf sp k M w) (hk : M[k]? = some m) (hid : m.1.id = y.id) (hu : (idsN (fstN M)).Nodup) (hs : Small M) (hn : n ≤ 20) :
    Calls Tryz.prog 89 #[.pointer (some ⟨gw, 0, none⟩)] w (ChgOut (chgN (fstN M) ⟨3, y, rs⟩) 3 y rs sf sp k gw gr w) := by
  have hkl : k < M.length := (List.getElem?_eq_some_iff.1 hk).1
  obtain ⟨x, tf, tp⟩ := m
  simp only at hid
  obtain ⟨g0, g1, g2, g3, g4, g5, g6, g7, g8, g9, g10, g11, g12⟩ := ndL_get (x, tf, tp)
  obtain ⟨r, hr⟩ : ∃ r, r = chgN (fstN M) ⟨3, y, rs⟩ := ⟨_, rfl⟩
  have HR := Lib.hid (show r = if x.kind = 0 ∨ (childN (fstN M) y.id).length ≠ 0 then (11, []) else (0, delN (fstN M) y.id) by
    rw [hr]
    unfold chgN
    rw [find_here hu hk hid]
    simp)
  rw [← hr]
  have HUP := Lib.hid (del_here hu hk hid)
  have q16 := h.blk.cell 16
  have q0 := h.blk.cell 0
  have q1 := h.blk.cell 1
  simp at q16 q0 q1
  have r1 := nd_cell h.own hk 1 _ g1
  have r0 := nd_cell h.own hk 0 _ g0
  simp only [Nat.add_zero] at r0
  rw [hid] at r0
  have HK := Lib.hid hk
  have HKL := Lib.hid hkl
  have H := Lib.hid h
  have HS := Lib.hid hs
  have HNM := Lib.hid h.num
  have hk0 : (0 : Int) ≤ (k : Int) := by omega
  have hkn : (k : Int) < (n : Int) := by have := h.num; omega
  clear h hk hid hu g0 g1 g2 g3 g4 g5 g6 g7 g8 g9 g10 g11 g12 hkl hr hs
  go_enter Tryz.func89, Tryz.ntmps89
  go_upto_region 3 with fail
  go_region
  have HQ := Lib.hid q0
  have HWD := Lib.hid (H.out.keep (Fr.refl w.heap.size [] w).drew)
  have F0 := Lib.hid (Fr.refl w.heap.size [gw, gr] w).drew
  replace q1 : w.drew.cell? ⟨gw, 1, none⟩ = some (.int .i64 3) := q1
  replace q0 : w.drew.cell? ⟨gw, 0, none⟩ = some (.slice (some ⟨gr, 0, none⟩) n c) := q0
  replace q16 : w.drew.cell? ⟨gw, 16, none⟩ = some (.int .i64 k) := q16
  replace r1 : w.drew.cell? ⟨gr, k * 13 + 1, none⟩ = some (.int .i64 x.kind) := r1
  replace r0 : w.drew.cell? ⟨gr, k * 13, none⟩ = some (.int .i64 y.id) := r0
  clear H
  generalize w.drew = wz at *
  by_cases hx : x.kind = 0
  · have HR1 := Lib.hid (show r = (11, []) by rw [HR.out, if_pos (.inl hx)])
    rw [hx] at r1
    clear HR hx
    go_upto_region 11 with fail
    go_region
    go_wp2_with fail
    go_ret
    rw [HR1.out]
    exact .inl ⟨by simp, rfl, F0.out.drew⟩
  · have hkb := kd_ne hx
    obtain ⟨q, hq⟩ : ∃ q, q = (childN (fstN M) y.id).length := ⟨_, rfl⟩
    have HR2 := Lib.hid (show r = if q ≠ 0 then (11, []) else (0, delN (fstN M) y.id) by
      rw [HR.out, hq]
      by_cases h0 : (childN (fstN M) y.id).length ≠ 0
      · rw [if_pos (.inr h0), if_pos h0]
      · rw [if_neg h0, if_neg (by rintro (h | h) <;> contradiction)])
    have hq1 : q ≤ 1000 := by
      rw [hq]
      have := kidsN_le (fstN M) y.id []
      have h2 : (childN (fstN M) y.id).length = (kidsN (fstN M) y.id []).length := by unfold childN; rw [srt_len]
      simp at this
      have hl : (fstN M).length = M.length := by simp [fstN]
      have := HNM.out
      omega
    have HCH := Lib.hid (fun (wx : World) (hx : Fr wz.heap.size [] wz wx) => (by
      have hk := HWD.out.keep hx
      refine (children_any y.id (some ⟨gr, 0, none⟩) c wx.heap.size n M wx hk.nds (Nat.le_refl _) HS.out).mono ?_
      rintro e w' ⟨A8, c8, q8, hq8, rfl, _, f8⟩
      obtain rfl : q8 = q := by rw [hq8, hq]; rfl
      exact ⟨A8, c8, rfl, f8⟩ : Calls Tryz.prog 92 #[.slice (some ⟨gr, 0, none⟩) n c, .int .i64 y.id] wx fun e w' => ∃ A8 c8, e = .returned (.slice A8 q c8) ∧ Fr wx.heap.size [] wx w'))
    have I0 := Lib.hid (Fr.refl wz.heap.size [] wz).drew
    clear HR hx hq
    go_upto_region 11 with fail
    have SS : wz.drew.cell? ⟨gr, k * 13 + 1, none⟩ = some (.int .i64 x.kind) ∧ wz.drew.cell? ⟨gw, 0, none⟩ = some (.slice (some ⟨gr, 0, none⟩) n c) ∧ wz.drew.cell? ⟨gr, k * 13, none⟩ = some (.int .i64 y.id) := ⟨r1, q0, r0⟩
    have hlw := HWD.out.blk.lt
    have hlr := (HWD.out.own.lt gr rfl).2
    go_region_held3 (fun w => w.cell? ⟨gr, k * 13 + 1, none⟩ = some (.int .i64 x.kind) ∧ w.cell? ⟨gw, 0, none⟩ = some (.slice (some ⟨gr, 0, none⟩) n c) ∧ w.cell? ⟨gr, k * 13, none⟩ = some (.int .i64 y.id)) (assumption) ((go_at_call 92; refine (HCH.out _ I0.out).mono ?_; rintro e w1 ⟨A8, c8, rfl, f8⟩; have SS : w1.cell? ⟨gr, k * 13 + 1, none⟩ = some (.int .i64 x.kind) ∧ w1.cell? ⟨gw, 0, none⟩ = some (.slice (some ⟨gr, 0, none⟩) n c) ∧ w1.cell? ⟨gr, k * 13, none⟩ = some (.int .i64 y.id) := ⟨(f8.cell (p := ⟨gr, k * 13 + 1, none⟩) hlr (by simp)).trans r1, (f8.cell (p := ⟨gw, 0, none⟩) hlw (by simp)).trans q0, (f8.cell (p := ⟨gr, k * 13, none⟩) hlr (by simp)).trans r0⟩))
    have HW1 := Lib.hid (HWD.out.keep (I0.out.trans f8))
    have F1 := Lib.hid (F0.out.trans ((I0.out.trans f8).mono (B' := w.heap.size) (L' := [gw, gr]) F0.out.size (by simp)))
    clear f8 SS HWD F0 I0 HCH q0 q1 q16 r0 r1 hlw hlr HQ
    rcases Nat.eq_zero_or_pos q with h0 | h0
    · have HR1 := Lib.hid (show r = (0, delN (fstN M) y.id) by rw [HR2.out, if_neg (by omega)])
      subst h0
      have q1 := HW1.out.blk.cell 1
      have q0 := HW1.out.blk.cell 0
      have q16 := HW1.out.blk.cell 16
      have z0 := HW1.out.blk.frozen 0
      simp at q0 q1 q16
      have HDL := Lib.hid (fun (wx : World) (hx : Fr w1.heap.size [] w1 wx) => ndel_any 0 gr n c k M wx HNM.out (by omega) (by omega) (fun m hm => slN_of (HW1.out.each m hm).inn) (HW1.out.keep hx).own)
      have I1 := Lib.hid (Fr.refl w1.heap.size [] w1).drew
      have hne := HW1.out.ne
      have hlw := HW1.out.blk.lt
      have hlr := (HW1.out.own.lt gr rfl).2
      have hwk : IntKind.i64.wrap ((k : Int) + 1) = (k : Int) + 1 := by rw [IntKind.wrap_i64]; omega
      clear HR2
      go_upto_region 13 with fail
      go_region_law ((rw [if_pos (by rfl)]; go_simp; refine (HDL.out _ I1.out).mono ?_; rintro e w2 ⟨rfl, ho2, f2⟩; have z0 := (f2.frozen (p := ⟨gw, 0, none⟩) hlw (by simpa using hne)).trans z0; have q0 := (f2.cell (p := ⟨gw, 0, none⟩) hlw (by simpa using hne)).trans q0; dsimp only))
      all_goals
        have f12 : Fr w1.heap.size [gr] w1 w2 := (I1.out.mono (Nat.le_refl _) (by simp)).trans f2
        have fz : Fr w1.heap.size [gw, gr] w1 (w2.setCell ⟨gw, 0, none⟩ (.slice (some ⟨gr, 0, none⟩) (n - 1) c)) := (f12.mono (L' := [gw, gr]) (Nat.le_refl _) (by intro q hq _; simp at hq; simp [hq])).setCell (p := ⟨gw, 0, none⟩) (.inr (by simp)) _
        have hb := (HW1.out.blk.fr f12 hlw (by simpa using hne)).set_ 0 (.slice (some ⟨gr, 0, none⟩) (n - 1) c)
        simp only [List.setIfInBounds_toArray, List.set_cons_zero] at hb
        have HB := Lib.hid hb
        have HO := Lib.hid (ownsRow_fr ho2 ((Fr.refl w2.heap.size [gw] w2).setCell (p := ⟨gw, 0, none⟩) (.inr (by simp)) (.slice (some ⟨gr, 0, none⟩) (n - 1) c)) (fun q hq => ⟨(ho2.lt q hq).2, by simp [Value.ownBlock] at hq; simp [← hq]; exact Ne.symm hne⟩))
        have FZ := Lib.hid (F1.out.trans (fz.mono (B' := w.heap.size) (L' := [gw, gr]) F1.out.size (by simp)))
        have HE := Lib.hid (show ∀ m ∈ M.take k ++ M.drop (k + 1), Apart gw gr (w2.setCell ⟨gw, 0, none⟩ (.slice (some ⟨gr, 0, none⟩) (n - 1) c)) m from fun m hm => (HW1.out.each m (by
          rcases List.mem_append.1 hm with h | h
          · exact List.mem_of_mem_take h
          · exact List.mem_of_mem_drop h)).keep fz)
        have HL := Lib.hid (show n - 1 = (M.take k ++ M.drop (k + 1)).length by
          rw [List.length_append, List.length_take, List.length_drop, ← HNM.out]
          omega)
        clear f12 fz hb ho2 f2 z0 q0 q1 q16
        go_wp2_with fail
        go_ret
        rw [HR1.out]
        exact .inr ⟨rfl, rfl, _, n - 1, c, _, HB.out, HO.out, HL.out, HE.out, HUP.out, FZ.out⟩
    · have HR1 := Lib.hid (show r = (11, []) by rw [HR2.out, if_pos (by omega)])
      clear HR2
      go_wp2_with fail
      go_ret
      rw [HR1.out]
      exact .inl ⟨by simp, rfl, F1.out⟩
end Go.Proofs.YthfibggbipkmfaaGreat
namespace Go.Proofs.YthfibggbipkmfaaGreat
open Go.RowKit Go.Fb
theorem end_ok {r : Int × List Nd} (h : (endN r).1 = 0) : r.1 = 0 ∧ RightG r.2 ∧ endN r = (0, normL r.2) := by
  unfold endN at h ⊢
  by_cases h1 : r.1 ≠ 0
  · rw [if_pos h1] at h; exact absurd h h1
  rw [if_neg h1] at h ⊢
  by_cases h2 : checkN r.2 ≠ 0
  · rw [if_pos h2] at h; exact absurd h h2
  rw [if_neg h2]
  exact ⟨Decidable.not_not.1 h1, checkN_zero.1 (Decidable.not_not.1 h2), rfl⟩
theorem norm_right {L : List Nd} (h : RightG L) : RightG (normL L) := right_perm (normL_perm L).symm h
end Go.Proofs.YthfibggbipkmfaaGreat
