/- Texts merged into one, for the number of files a claim may have: NdK. -/
import Derived.Test.YtfakgidimekikaaGreatMNdI
import Derived.Test.YtfakgidimekikaaGreatMB
import Derived.Laws.EntriesVeiled
import Derived.WalkMore
import Derived.ScopeJumps
namespace Go.Proofs.YtfakgidimekikaaGreat
open Go.RowKit Go.Fb
abbrev fnStands (gO : Nat) : Value := .func (.func 114) #[] #[.pointer (some ⟨gO, 0, none⟩)]
set_option maxRecDepth 100000 in
theorem stands_any (x : Int) (gO : Nat) (A : Option Addr) (q c B : Nat) (out : List Int) (w : World) (hb : Blk w gO 46 #[.slice A q c]) (hn : q = out.length) (hm : q ≤ 1000000) (hr : Reads w B 1 A q (out.map (Value.int .i64))) (hB : B ≤ w.heap.size) :
    Calls Tryz.prog 114 #[.int .i64 x, .pointer (some ⟨gO, 0, none⟩)] w fun e w' => e = .returned (.bool (hasI out x)) ∧ Fr w.heap.size [] w w' := by
  have HC := Lib.hid (ihas_any x A c B q out w hn hm hr hB)
  have c0 := hb.cell 0
  simp at c0
  clear hb hn hr
  go_enter Tryz.func114, Tryz.ntmps114
  go_wp2_with fail
  refine HC.out.mono ?_
  rintro e w1 ⟨rfl, f1⟩
  have F1 := Lib.hid f1
  clear f1
  go_wp2_with fail
  go_ret
  exact ⟨rfl, F1.out⟩
set_option maxRecDepth 100000 in
theorem nstands_any (x : Int) (gS gO : Nat) (A : Option Addr) (q c B : Nat) (out : List Int) (w : World) (hs : Blk w gS 171 #[fnStands gO]) (hb : Blk w gO 46 #[.slice A q c]) (hn : q = out.length) (hm : q ≤ 1000000) (hr : Reads w B 1 A q (out.map (Value.int .i64))) (hB : B ≤ w.heap.size) :
    Calls Tryz.prog 115 #[.int .i64 x, .pointer (some ⟨gS, 0, none⟩)] w fun e w' => e = .returned (.bool (!hasI out x)) ∧ Fr w.heap.size [] w w' := by
  have HC := Lib.hid (stands_any x gO A q c B out w hb hn hm hr hB)
  have c0 := hs.cell 0
  simp at c0
  have hent := enters_of Tryz.func114 (by kernel_rfl) rfl
  clear hb hn hr hs
  go_enter Tryz.func115, Tryz.ntmps115
  go_wp2_with fail
  refine HC.out.mono ?_
  rintro e w1 ⟨rfl, f1⟩
  have F1 := Lib.hid f1
  clear f1
  go_wp2_with fail
  go_ret
  exact ⟨rfl, F1.out⟩
/-- A row of nodes of its own. -/
structure Nmd (base : Nat) (w : World) (A : Option Addr) (n c : Nat) (M : List Ndm) : Prop where
  num : n = M.length
  own : w.ownsRow base 50 13 (.slice A n c) n (cellsN M)
  inn : NmI base (Value.ownBlock (.slice A n c)) w M
theorem fresh_notin {base : Nat} {v : Value} {L : List Nat} (h : Fresh base v) (hL : ∀ k ∈ L, k < base) {A : Option Addr} {n c : Nat} (hv : v = .slice A n c) (hn : 0 < n) : ∀ ad, A = some ad → ad.block ∉ L := by
  intro ad ha hm
  have := h A n c hv hn ad ha
  have := hL _ hm
  omega
theorem Nmd.frd {base : Nat} {w w' : World} {A : Option Addr} {n c : Nat} {M : List Ndm} {L : List Nat} (h : Nmd base w A n c M) (hf : Fr w.heap.size L w w') (hL : ∀ k ∈ L, k < base) : Nmd base w' A n c M :=
  ⟨h.num, ownsRow_fr h.own hf (fun q hq => ⟨(h.own.lt q hq).2, fun hm => by have := (h.own.lt q hq).1; have := hL _ hm; omega⟩), fun m hm => by
    obtain ⟨⟨⟨A1, c1, h1, h2⟩, ⟨A2, c2, h3, h4⟩⟩, o1, o2, f1, f2, th⟩ := h.inn m hm
    exact ⟨⟨⟨A1, c1, h1, (h2.frL hf (Nat.le_refl _) (fresh_notin f1 hL h1)).more hf.size⟩, ⟨A2, c2, h3, (h4.frL hf (Nat.le_refl _) (fresh_notin f2 hL h3)).more hf.size⟩⟩, o1, o2, f1, f2, th.frL hf (fun A n c hv hn => fresh_notin f2 hL hv hn)⟩⟩
theorem Nmd.nds {base : Nat} {w w' : World} {A : Option Addr} {n c : Nat} {M : List Ndm} {L : List Nat} (h : Nmd base w A n c M) (hf : Fr w.heap.size L w w') (hL : ∀ k ∈ L, k < base) : Nds w' w.heap.size A n M :=
  ⟨h.num, (Reads.of_own h.own).frL hf (Nat.le_refl _) (fun hn ad ha hm => by
    obtain ⟨g, cap, hv, hbg, hlt⟩ := h.own.form hn
    injection hv with hv
    rw [ha] at hv
    injection hv with hv
    subst hv
    have := hL _ hm
    simp only at this
    omega), fun m hm => by
    obtain ⟨⟨⟨A1, c1, h1, h2⟩, ⟨A2, c2, h3, h4⟩⟩, o1, o2, f1, f2, th⟩ := h.inn m hm
    exact ⟨⟨A1, c1, h1, h2.frL hf (Nat.le_refl _) (fresh_notin f1 hL h1)⟩, ⟨A2, c2, h3, h4.frL hf (Nat.le_refl _) (fresh_notin f2 hL h3)⟩⟩⟩
theorem small_norm {M M1 : List Ndm} (hs : Small M) (h : fstN M1 = normL (fstN M)) : Small M1 := by
  refine ⟨?_, fun m hm => ?_⟩
  · have := congrArg List.length h
    rw [normL_len] at this
    simp [fstN] at this
    rw [this]
    exact hs.1
  · have h1 : m.1 ∈ fstN M1 := List.mem_map.2 ⟨m, hm, rfl⟩
    rw [h, normL_mem] at h1
    obtain ⟨m', hm', e⟩ := List.mem_map.1 h1
    rw [← e]
    exact hs.2 m' hm'
theorem find_at {α : Type} {p : α → Bool} : ∀ {l : List α} {i : Nat} {a : α}, l[i]? = some a → p a = true → (∀ j y, j < i → l[j]? = some y → p y = false) → l.find? p = some a
  | [], _, _, h, _, _ => by simp at h
  | x :: l, 0, a, h, hp, _ => by
    simp at h
    subst h
    rw [List.find?_cons, hp]
  | x :: l, i + 1, a, h, hp, hb => by
    rw [List.find?_cons, hb 0 x (by omega) rfl]
    exact find_at (l := l) (i := i) (by simpa using h) hp fun j y hj hy => hb (j + 1) y (by omega) (by simpa using hy)
theorem find_no {α : Type} {p : α → Bool} {l : List α} (h : ∀ (j : Nat) (y : α), l[j]? = some y → p y = false) : l.find? p = none := by
  rw [List.find?_eq_none]
  intro x hx
  obtain ⟨j, hj⟩ := List.getElem?_of_mem hx
  simp [h j x hj]
/-- What holds at the label. -/
structure SortJ (gO gS : Nat) (L : List Nd) (w w2 wr : World) (A1 : Option Addr) (n1 c1 : Nat) (M1 : List Ndm) (A' : Option Addr) (k c' : Nat) : Prop where
  nmd : Nmd (gS + 1) w2 A1 n1 c1 M1
  fst : fstN M1 = normL L
  sml : Small M1
  fr2 : Fr w.heap.size [] w w2
  blS : Blk w2 gS 171 #[fnStands gO]
  fr : Fr w2.heap.size [gO] w2 wr
  box : Blk wr gO 46 #[.slice A' k c']
  own : wr.ownsRow w2.heap.size 3 1 (.slice A' k c') k ((sortF (normL L) k).map (Value.int .i64))
  len : k = (sortF (normL L) k).length
theorem SortJ.mv {gO gS : Nat} {L : List Nd} {w w2 wr wi : World} {A1 : Option Addr} {n1 c1 : Nat} {M1 : List Ndm} {A' : Option Addr} {k c' : Nat} (h : SortJ gO gS L w w2 wr A1 n1 c1 M1 A' k c') (hf : Fr wr.heap.size [] wr wi) : SortJ gO gS L w w2 wi A1 n1 c1 M1 A' k c' :=
  ⟨h.nmd, h.fst, h.sml, h.fr2, h.blS, h.fr.trans (hf.mono (B' := w2.heap.size) (L' := [gO]) h.fr.size (by simp)), h.box.fr hf h.box.lt (by simp), ownsRow_fr h.own hf (fun q hq => ⟨(h.own.lt q hq).2, by simp⟩), h.len⟩
theorem SortJ.lt {gO gS : Nat} {L : List Nd} {w w2 wr : World} {A1 : Option Addr} {n1 c1 : Nat} {M1 : List Ndm} {A' : Option Addr} {k c' : Nat} (h : SortJ gO gS L w w2 wr A1 n1 c1 M1 A' k c') (hgo : gO < gS) : Nds wr w2.heap.size A1 n1 M1 :=
  h.nmd.nds h.fr (by simp; omega)
theorem SortJ.num {gO gS : Nat} {L : List Nd} {w w2 wr : World} {A1 : Option Addr} {n1 c1 : Nat} {M1 : List Ndm} {A' : Option Addr} {k c' : Nat} (h : SortJ gO gS L w w2 wr A1 n1 c1 M1 A' k c') : n1 = L.length := by
  have := congrArg List.length h.fst
  rw [normL_len] at this
  simp [fstN] at this
  rw [← this]
  exact h.nmd.num
theorem SortJ.kle {gO gS : Nat} {L : List Nd} {w w2 wr : World} {A1 : Option Addr} {n1 c1 : Nat} {M1 : List Ndm} {A' : Option Addr} {k c' : Nat} (h : SortJ gO gS L w w2 wr A1 n1 c1 M1 A' k c') : k ≤ L.length := by
  have := (sortF_ord (normL L) k).le
  rw [← h.len, normL_len] at this
  exact this
theorem SortJ.bs {gO gS : Nat} {L : List Nd} {w w2 wr : World} {A1 : Option Addr} {n1 c1 : Nat} {M1 : List Ndm} {A' : Option Addr} {k c' : Nat} (h : SortJ gO gS L w w2 wr A1 n1 c1 M1 A' k c') (hgo : gO < gS) : Blk wr gS 171 #[fnStands gO] :=
  h.blS.fr h.fr h.blS.lt (by simp; omega)
theorem SortJ.ready {gO gS : Nat} {L : List Nd} {w w2 wr : World} {A1 : Option Addr} {n1 c1 : Nat} {M1 : List Ndm} {A' : Option Addr} {k c' : Nat} (h : SortJ gO gS L w w2 wr A1 n1 c1 M1 A' k c') {i : Nat} {m : Ndm} (hm : M1[i]? = some m) (hr : readyB (sortF (normL L) k) m.1 = true)
    (hb : ∀ (j : Nat) (y : Ndm), j < i → M1[j]? = some y → readyB (sortF (normL L) k) y.1 = false) : (normL L).find? (readyB (sortF (normL L) k)) = some m.1 := by
  refine find_at (i := i) ?_ hr fun j y hj hy => ?_
  · rw [← h.fst]; simp [fstN, hm]
  · rw [← h.fst] at hy
    simp only [fstN, List.getElem?_map, Option.map_eq_some_iff] at hy
    obtain ⟨z, hz, rfl⟩ := hy
    exact hb j z hj hz
theorem SortJ.none_ {gO gS : Nat} {L : List Nd} {w w2 wr : World} {A1 : Option Addr} {n1 c1 : Nat} {M1 : List Ndm} {A' : Option Addr} {k c' : Nat} (h : SortJ gO gS L w w2 wr A1 n1 c1 M1 A' k c')
    (hb : ∀ (j : Nat) (y : Ndm), j < n1 → M1[j]? = some y → readyB (sortF (normL L) k) y.1 = false) : sortN L = sortF (normL L) k := by
  have hf : (normL L).find? (readyB (sortF (normL L) k)) = none := by
    refine find_no fun j y hy => ?_
    rw [← h.fst] at hy
    simp only [fstN, List.getElem?_map, Option.map_eq_some_iff] at hy
    obtain ⟨z, hz, rfl⟩ := hy
    refine hb j z ?_ hz
    rw [h.nmd.num]
    exact (List.getElem?_eq_some_iff.1 hz).1
  have := sortF_end (L := normL L) (k := k) (by rw [normL_len]; exact h.kle) hf
  unfold sortN
  rw [← normL_len L, this]
theorem SortJ.more {gO gS : Nat} {L : List Nd} {w w2 w3 w4 : World} {A1 : Option Addr} {n1 c1 : Nat} {M1 : List Ndm} {A' A3 : Option Addr} {k c' c3 : Nat} {x : Nd} {news : Array Value} (h : SortJ gO gS L w w2 w3 A1 n1 c1 M1 A' k c') (hf : (normL L).find? (readyB (sortF (normL L) k)) = some x)
    (ho : w4.ownsRow w2.heap.size 3 1 (.slice A3 (k + 1) c3) (k + 1) ((sortF (normL L) k).map (Value.int .i64) ++ [Value.int .i64 x.id])) (hg : (w3.alloc (.cells news 3)).grownBy w4 (Value.ownBlock (.slice A' k c'))) : SortJ gO gS L w w2 (w4.setCell ⟨gO, 0, none⟩ (.slice A3 (k + 1) c3)) A1 n1 c1 M1 A3 (k + 1) c3 := by
  have hb4 : Blk w4 gO 46 #[.slice A' k c'] := (h.box.alloc _).grown hg (h.box.ne_own h.own (by decide))
  have hss := sortF_some hf
  refine ⟨h.nmd, h.fst, h.sml, h.fr2, h.blS, ?_, by simpa using hb4.set_ 0 (.slice A3 (k + 1) c3), ?_, ?_⟩
  · have f4 := Fr.of_app hg h.own h.fr.size
    exact (h.fr.trans (f4.mono (Nat.le_refl _) (by simp))).setCell (.inr (by simp)) _
  · rw [hss, List.map_append]
    exact ownsRow_setCell_other ho (fun e => hb4.ne_own ho (by decide) e.symm) _
  · rw [hss, List.length_append, ← h.len]; rfl
def sortMu (gO : Nat) (w : World) : Nat := match w.cell? ⟨gO, 0, none⟩ with
  | some (.slice _ k _) => 21 - k
  | _ => 0
theorem sortMu_lt {gO : Nat} {w w' : World} {A A' : Option Addr} {k c c' : Nat} (h : Blk w gO 46 #[.slice A k c]) (h' : Blk w' gO 46 #[.slice A' (k + 1) c']) (hk : k ≤ 20) : sortMu gO w' < sortMu gO w := by
  have c0 := h.cell 0
  have c1 := h'.cell 0
  unfold sortMu
  rw [c0, c1]
  simp
  omega
set_option maxRecDepth 100000 in
set_option maxHeartbeats 4000000 in
theorem sort_any (A : Option Addr) (c B n : Nat) (M : List Ndm) (w : World) (h : Nds w B A n M) (hB : B ≤ w.heap.size) (hs : Small M) (hn : n ≤ 20) :
    Calls Tryz.prog 75 #[.slice A n c] w (IntsOut (sortN (fstN M)) w) := by
  have BO := Lib.hid ((Blk.new w 46 #[.slice none 0 0]).alloc (.cells #[fnStands w.heap.size] 171))
  have BS0 := Blk.new (w.alloc (.cells #[.slice none 0 0] 46)) 171 #[fnStands w.heap.size]
  rw [World.size_alloc] at BS0
  have BS := Lib.hid BS0
  have F1 := Lib.hid (((Fr.refl w.heap.size [] w).alloc (Nat.le_refl _) (.cells #[.slice none 0 0] 46)).alloc (by simp) (.cells #[fnStands w.heap.size] 171))
  have HN := Lib.hid (norm_any A c B n M ((w.alloc (.cells #[.slice none 0 0] 46)).alloc (.cells #[fnStands w.heap.size] 171)) (h.frw F1.out hB (by simp)) (Nat.le_trans hB F1.out.size) hs hn)
  have hz1 : ((w.alloc (.cells #[.slice none 0 0] 46)).alloc (.cells #[fnStands w.heap.size] 171)).heap.size = w.heap.size + 1 + 1 := by simp
  have HZ1 := Lib.hid hz1
  have HNUM := Lib.hid h.num
  have HSM := Lib.hid hs
  obtain ⟨L, hL⟩ : ∃ L, L = fstN M := ⟨_, rfl⟩
  have HLM := Lib.hid hL
  rw [← hL] at HN ⊢
  have hnl : L.length = n := by rw [hL, h.num]; simp [fstN]
  have HNL := Lib.hid hnl
  clear BS0 h hs hL hz1 hnl
  go_enter Tryz.func75, Tryz.ntmps75
  go_wp2_with fail
  refine wp_scope_jumps 0 (fun a' w' => ∃ (w2 : World) (A1 : Option Addr) (n1 c1 : Nat) (M1 : List Ndm) (A' : Option Addr) (k c' : Nat) (u1 u5 u6 u7 u8 u9 u10 u11 u12 u13 u14 u15 u16 u17 u18 u19 u20 u21 u22 u23 u24 u25 u26 u27 u28 u29 u30 u31 u32 u33 u34 : Value), a' = { tmps := #[.slice A1 n1 c1, u1, .slice none 0 0, .pointer (some ⟨w.heap.size, 0, none⟩), .pointer (some ⟨w.heap.size + 1, 0, none⟩), u5, u6, u7, u8, u9, u10, u11, u12, u13, u14, u15, u16, u17, u18, u19, u20, u21, u22, u23, u24, u25, u26, u27, u28, u29, u30, u31, u32, u33, u34], defers := [] } ∧ RowKit.Hid (SortJ w.heap.size (w.heap.size + 1) L w w2 w' A1 n1 c1 M1 A' k c')) (fun _ w' => sortMu w.heap.size w') rfl ?first ?pass
  case' first =>
    go_wp2_with fail
    generalize (w.alloc _).alloc _ = w1 at *
    refine HN.out.mono ?_
    rintro e w2 ⟨A1, c1, n1, M1, hn1, rfl, ho, hi, hf1, f2⟩
    rw [HZ1.out] at ho hi f2
    have HJ := Lib.hid (show SortJ w.heap.size (w.heap.size + 1) L w w2 w2 A1 n1 c1 M1 none 0 0 from ⟨⟨hn1, ho, hi⟩, hf1, small_norm HSM.out (by rw [hf1, HLM.out]), F1.out.trans (f2.mono (B' := w.heap.size) (L' := []) (by omega) (by simp)), BS.out.fr f2 (by omega) (by simp), Fr.refl _ _ _, BO.out.fr f2 (by omega) (by simp), World.ownsRow_nil _ _ _ _, rfl⟩)
    clear hn1 ho hi hf1 f2 HN BO BS F1 HZ1
    obtain ⟨wq, hwq⟩ : ∃ wq : World, wq = w2 := ⟨_, rfl⟩
    obtain ⟨A', k, c', HJ⟩ : ∃ (A' : Option Addr) (k c' : Nat), RowKit.Hid (SortJ w.heap.size (w.heap.size + 1) L w w2 wq A1 n1 c1 M1 A' k c') := ⟨none, 0, 0, by rw [hwq]; exact HJ⟩
    rw [← hwq]
    clear hwq
    go_wp2_with fail
    go_step3
    go_wp2_with fail
  case' pass =>
    rintro a wq ⟨w2, A1, n1, c1, M1, A', k, c', u1, u5, u6, u7, u8, u9, u10, u11, u12, u13, u14, u15, u16, u17, u18, u19, u20, u21, u22, u23, u24, u25, u26, u27, u28, u29, u30, u31, u32, u33, u34, rfl, HJ⟩
    clear HN BO BS F1 HZ1
    go_wp2_with fail
  all_goals
    have hn1 : n1 ≤ 20 := by rw [HJ.out.num, HNL.out]; exact hn
    have hk20 : k ≤ 20 := by have h1 := HJ.out.kle; have h2 := HNL.out; omega
    go_loopg [12] n1 (fun g s12 wr => ∃ i : Nat, i ≤ n1 ∧ g = n1 - i ∧ s12 = .int .i64 i ∧ RowKit.Hid (∀ (j : Nat) (y : Ndm), j < i → M1[j]? = some y → readyB (sortF (normL L) k) y.1 = false) ∧ RowKit.Hid (Fr wq.heap.size [] wq wr))
    case atStart => exact ⟨0, Nat.zero_le _, rfl, rfl, Lib.hid (fun j y h => absurd h (Nat.not_lt_zero _)), Lib.hid (Fr.refl _ _ _)⟩
    case round =>
      obtain ⟨i, hi, rfl, rfl, HB, HF⟩ := hrel
      have HJ := Lib.hid (HJ.out.mv HF.out)
      by_cases hin1 : i < n1
      · have hki : (i : Int) < (n1 : Int) := by omega
        have hk0 : (0 : Int) ≤ (i : Int) := by omega
        obtain ⟨m, hx⟩ : ∃ m, M1[i]? = some m := ⟨_, List.getElem?_eq_getElem (by rw [← HJ.out.nmd.num]; exact hin1)⟩
        have HX := Lib.hid hx
        have HND := HJ.out.lt (by omega)
        have hlt2 : w2.heap.size ≤ wr.heap.size := HJ.out.fr.size
        obtain ⟨b1, o1, rfl, hb1, hc1⟩ := HND.get hx
        have hin := HND.inn m (List.mem_of_getElem? hx)
        have hsm := HJ.out.sml.2 m (List.mem_of_getElem? hx)
        obtain ⟨x, sf, sp⟩ := m
        have fa := (Fr.refl wr.heap.size [] wr).alloc (Nat.le_refl _) (.cells (ndA x sf sp) 50)
        have BX := Lib.hid (Blk.new wr 50 (ndA x sf sp))
        have HJa := Lib.hid (HJ.out.mv fa)
        have HFa := Lib.hid (HF.out.trans (fa.mono (B' := wq.heap.size) (L' := []) HF.out.size (by simp)))
        obtain ⟨⟨Af, cf, hf1, hf2⟩, ⟨Ap, cp, hp1, _⟩⟩ := hin
        simp only at hf1 hp1 hsm hf2
        have RF := Lib.hid (hf2.fr fa hlt2 (by simp))
        subst hf1
        subst hp1
        obtain ⟨g0, g1, g2, g3, g4, g5, g6, g7, g8, g9, g10, g11, g12⟩ := ndL_get (x, .slice Af x.fr.length cf, .slice Ap x.pg.length cp)
        have p0 := hc1 0 _ g0
        have p1 := hc1 1 _ g1
        have p2 := hc1 2 _ g2
        have p3 := hc1 3 _ g3
        have p4 := hc1 4 _ g4
        have p5 := hc1 5 _ g5
        have p6 := hc1 6 _ g6
        have p7 := hc1 7 _ g7
        have p8 := hc1 8 _ g8
        have p9 := hc1 9 _ g9
        have p10 := hc1 10 _ g10
        have p11 := hc1 11 _ g11
        have p12 := hc1 12 _ g12
        simp only [Nat.add_zero] at p0
        obtain ⟨nf, hnf⟩ : ∃ z, z = x.fr.length := ⟨_, rfl⟩
        obtain ⟨np, hnp⟩ : ∃ z, z = x.pg.length := ⟨_, rfl⟩
        rw [← hnf] at p2 BX HJa HFa RF
        rw [← hnp] at p3 BX HJa HFa RF
        have HNF := Lib.hid hnf
        have hnf1 : nf ≤ 1000000 := by rw [hnf]; exact hsm.1
        clear hc1 hx g0 g1 g2 g3 g4 g5 g6 g7 g8 g9 g10 g11 g12 HND hsm hnf hnp fa hb1 hf2 HF HJ
        go_upto_region 7 with fail
        clear p0 p1 p2 p3 p4 p5 p6 p7 p8 p9 p10 p11 p12
        have hwa : w2.heap.size ≤ (wr.alloc (.cells (ndA x (.slice Af nf cf) (.slice Ap np cp)) 50)).heap.size := HJa.out.fr.size
        clear hlt2
        generalize wr.alloc (.cells (ndA x (.slice Af nf cf) (.slice Ap np cp)) 50) = wa at *
        generalize wr.heap.size = gx at *
        have q0 := BX.out.cell 0
        have q2 := BX.out.cell 2
        simp at q0 q2
        have s0 := (HJa.out.bs (by omega)).cell 0
        simp at s0
        obtain ⟨out, hout⟩ : ∃ o, o = sortF (normL L) k := ⟨_, rfl⟩
        have HOUT := Lib.hid hout
        have HRB := Lib.hid (show readyB out x = (!hasI out x.id && x.fr.all (hasI out)) from rfl)
        have hlen := HJa.out.len
        have hown := HJa.out.own
        rw [← hout] at hlen hown
        have HC1 := stands_any x.id w.heap.size A' k c' _ out wa HJa.out.box hlen (by omega) (Reads.of_own hown) (Nat.le_refl _)
        obtain ⟨h1, hh1⟩ : ∃ b, b = hasI out x.id := ⟨_, rfl⟩
        rw [← hh1] at HC1 HRB
        have HC1 := Lib.hid HC1
        have hent := enters_of Tryz.func114 (by kernel_rfl) rfl
        clear hout hh1 hlen hown
        cases h1 with
        | true =>
          have HR0 := Lib.hid (show readyB out x = false by rw [HRB.out]; rfl)
          go_wp2_with fail
          refine HC1.out.mono ?_
          rintro e wb ⟨rfl, fb⟩
          have HFb := Lib.hid (HFa.out.trans (fb.mono (B' := wq.heap.size) (L' := []) HFa.out.size (by simp)))
          clear fb HC1 q0 q2 s0
          go_wp2_with fail
          go_roundg (n1 - (i + 1))
          case measure => omega
          case rel => exact ⟨i + 1, by omega, rfl, by go_num, Lib.hid (fun j y hj hy => by
            by_cases e : j = i
            · subst e
              have := HX.out.symm.trans hy
              injection this with this
              rw [← this, ← HOUT.out]
              exact HR0.out
            · exact HB.out j y (by omega) hy), HFb⟩
        | false =>
          go_wp2_with fail
          refine HC1.out.mono ?_
          rintro e wb ⟨rfl, fb⟩
          have HFb := Lib.hid (HFa.out.trans (fb.mono (B' := wq.heap.size) (L' := []) HFa.out.size (by simp)))
          have HJb := Lib.hid (HJa.out.mv fb)
          have BXb := Lib.hid (BX.out.fr fb BX.out.lt (by simp))
          have RFb := Lib.hid (RF.out.fr fb hwa (by simp))
          have hwb : w2.heap.size ≤ wb.heap.size := HJb.out.fr.size
          clear fb HC1 q0 q2 s0 HFa HJa BX RF hwa
          have q0 := BXb.out.cell 0
          have q2 := BXb.out.cell 2
          simp at q0 q2
          have hent2 := enters_of Tryz.func115 (by kernel_rfl) rfl
          have HC2 := jcontains_any 115 #[.pointer (some ⟨w.heap.size + 1, 0, none⟩)] (fun f => !hasI out f) Af cf w2.heap.size nf x.fr wb hent2 (fun f w' _ hf => nstands_any f (w.heap.size + 1) w.heap.size A' k c' _ out w' ((HJb.out.mv hf).bs (by omega)) (HJb.out.mv hf).box (by rw [HOUT.out]; exact (HJb.out.mv hf).len) (by omega) (by rw [HOUT.out]; exact Reads.of_own (HJb.out.mv hf).own) (Nat.le_refl _)) HNF.out hnf1 RFb.out hwb
          obtain ⟨h2, hh2⟩ : ∃ b, b = x.fr.any (fun f => !hasI out f) := ⟨_, rfl⟩
          rw [← hh2] at HC2
          have HC2 := Lib.hid HC2
          have HR2 := Lib.hid (show readyB out x = !h2 by rw [HRB.out, hh2, List.any_eq_not_all_not]; simp)
          clear hh2 HRB
          cases h2 with
          | true =>
            go_wp2_with fail
            refine HC2.out.mono ?_
            rintro e wd ⟨rfl, fd⟩
            have HFd := Lib.hid (HFb.out.trans (fd.mono (B' := wq.heap.size) (L' := []) HFb.out.size (by simp)))
            clear fd HC2 q0 q2
            go_wp2_with fail
            go_roundg (n1 - (i + 1))
            case measure => omega
            case rel => exact ⟨i + 1, by omega, rfl, by go_num, Lib.hid (fun j y hj hy => by
              by_cases e : j = i
              · subst e
                have := HX.out.symm.trans hy
                injection this with this
                rw [← this, ← HOUT.out]
                exact HR2.out
              · exact HB.out j y (by omega) hy), HFd⟩
          | false =>
            go_wp2_with fail
            refine HC2.out.mono ?_
            rintro e wd ⟨rfl, fd⟩
            have HJd := Lib.hid (HJb.out.mv fd)
            have BXd := Lib.hid (BXb.out.fr fd BXb.out.lt (by simp))
            have HFN := Lib.hid (HJd.out.ready HX.out (by rw [← HOUT.out]; exact HR2.out) HB.out)
            have hklt := sortF_room HJd.out.len.symm HFN.out
            rw [normL_len, HNL.out] at hklt
            clear fd HC2 q0 q2 HFb HJb BXb RFb hwb
            have q0 := BXd.out.cell 0
            have o0 := HJd.out.box.cell 0
            simp at q0 o0
            have hown := HJd.out.own
            have hsz := HJd.out.fr.size
            go_wp2_with (at_builtin; refine wpList_app_lit _ rfl (.tmp 28) (.tmp 31) intsTy rfl w2.heap.size (.slice A' k c') k _ rfl hown 1 1 _ rfl rfl (by simp [Value.oneCell']) (by omega) (by omega) hsz ?_; intro A3 c3 w4 hown4 hg4 hat4; have hb4 := (HJd.out.box.alloc (.cells #[.int .i64 x.id] 3)).grown hg4 (HJd.out.box.ne_own hown (by decide)); have zb4 := hb4.frozen 0; have cb4 := hb4.cell 0; simp at cb4)
            have HJ5 := Lib.hid (HJd.out.more HFN.out hown4 hg4)
            have HMU := Lib.hid (sortMu_lt HJ.out.box HJ5.out.box hk20)
            clear hown4 hg4 hat4 hb4 zb4 cb4 hown q0 o0 HJd BXd HC1 HC2
            generalize w4.setCell ⟨w.heap.size, 0, none⟩ (.slice A3 (k + 1) c3) = w5 at *
            go_step3
            first
              | exact ⟨rfl, w2, _, _, _, _, A3, k + 1, c3, _, _, _, _, _, _, _, _, _, _, _, _, _, _, _, _, _, _, _, _, _, _, _, _, _, _, _, _, _, _, _, rfl, HJ5⟩
              | exact ⟨rfl, ⟨w2, _, _, _, _, A3, k + 1, c3, _, _, _, _, _, _, _, _, _, _, _, _, _, _, _, _, _, _, _, _, _, _, _, _, _, _, _, _, _, _, _, rfl, HJ5⟩, HMU.out⟩
      · obtain rfl : i = n1 := by omega
        have HE := Lib.hid (HJ.out.none_ HB.out)
        have o0 := HJ.out.box.cell 0
        simp at o0
        go_wp2_with fail
        simp only [Exit.jump]
        go_ret
        unfold IntsOut
        rw [HE.out]
        exact ⟨A', c', k, HJ.out.len, rfl, ownsRow_base HJ.out.own HJ.out.fr2.size, HJ.out.fr2.trans (HJ.out.fr.mono HJ.out.fr2.size (by intro q hq hlt; simp at hq; omega))⟩
end Go.Proofs.YtfakgidimekikaaGreat
