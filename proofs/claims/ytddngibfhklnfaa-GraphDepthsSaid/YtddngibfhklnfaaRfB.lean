/- The document's words on graphs: above, Children, Below. -/
import Derived.Test.YtddngibfhklnfaaRfA
namespace Go.Proofs.Ytddngibfhklnfaa
open Go.RowKit Go.Fb
theorem any_take {α : Type} {p : α → Bool} {l : List α} {k : Nat} {x : α} (hx : l[k]? = some x) (hp : p x = true) : l.any p = true := List.any_eq_true.2 ⟨x, List.mem_of_getElem? hx, hp⟩
theorem any_none {α : Type} {p : α → Bool} {l : List α} (h : ∀ x ∈ l, p x = false) : l.any p = false := by rw [List.any_eq_false]; intro x hx; simp [h x hx]
set_option maxRecDepth 100000 in
set_option maxHeartbeats 2000000 in
theorem rabove_any (tg : Int) (A : Option Addr) (c B n : Nat) (M : List Ndm) (w : World) (h : Nds w B A n M) (hs : Small M) : ∀ (s : Nat) (f : Int), s ≤ 100 →
    Calls Try.prog 46 #[.slice A n c, .int .i64 f, .int .i64 tg, .int .i64 s] w fun e w' => e = .returned (.bool (aboveN (fstN M) tg s f)) ∧ w = w'
  | s, f, hs100 => by
    have hm : n ≤ 1000000 := by rw [h.num]; exact hs.1
    have HFI := rfind_any f A c B n M w h hm
    have HREC : ∀ s', s = s' + 1 → ∀ f', Calls Try.prog 46 #[.slice A n c, .int .i64 f', .int .i64 tg, .int .i64 s'] w fun e w' => e = .returned (.bool (aboveN (fstN M) tg s' f')) ∧ w = w' := fun s' e f' => rabove_any tg A c B n M w h hs s' f' (by omega)
    obtain ⟨L, hL⟩ : ∃ L, L = fstN M := ⟨_, rfl⟩
    rw [← hL] at HFI HREC ⊢
    have HL := Lib.hid hL
    have H := Lib.hid h
    have HS := Lib.hid hs
    have HREC := Lib.hid HREC
    clear hL h hs
    rcases ixN_cases L f with ⟨h1, h2⟩ | ⟨k, x, h1, h2, h3⟩
    · rw [h1] at HFI
      have hv : aboveN L tg s f = false := by cases s with
        | zero => rfl
        | succ s => unfold aboveN; rw [h2]
      rw [hv]
      have HFI := Lib.hid HFI
      clear h1 h2 hv
      go_enter Try.func46, Try.ntmps46
      go_wp2_with fail
      refine HFI.out.mono ?_
      rintro e w1 ⟨rfl, rfl⟩
      go_wp2_with fail
      go_ret
      exact ⟨rfl, rfl⟩
    · rw [h1] at HFI
      have HFI := Lib.hid HFI
      cases s with
      | zero =>
        clear h1 h2 h3
        have hk1 : decide ((k : Int) < 0) = false := decide_eq_false (by omega)
        have hv : aboveN L tg 0 f = false := rfl
        rw [hv]
        clear hv
        show Calls Try.prog 46 #[.slice A n c, .int .i64 f, .int .i64 tg, .int .i64 0] w _
        go_enter Try.func46, Try.ntmps46
        go_wp2_with fail
        refine HFI.out.mono ?_
        rintro e w1 ⟨rfl, rfl⟩
        go_wp2_with fail
        go_ret
        exact ⟨rfl, rfl⟩
      | succ s =>
        have HR := Lib.hid (HREC.out s rfl)
        have hv : aboveN L tg (s + 1) f = x.fr.any (fun k => decide (k = tg) || aboveN L tg s k) := by
          conv => lhs; unfold aboveN
          rw [h3]
        obtain ⟨vb, hvb⟩ : ∃ b, b = aboveN L tg (s + 1) f := ⟨_, rfl⟩
        rw [← hvb]
        rw [← hvb] at hv
        have HV := Lib.hid hv
        have hkn : k < n := by
          have := (List.getElem?_eq_some_iff.1 h2).1
          rw [HL.out] at this
          simp [fstN] at this
          rw [H.out.num]
          exact this
        obtain ⟨m, hx⟩ : ∃ m, M[k]? = some m := ⟨_, List.getElem?_eq_getElem (by rw [← H.out.num]; exact hkn)⟩
        have hmx : m.1 = x := by
          have := h2
          rw [HL.out] at this
          simp [fstN, hx] at this
          exact this
        obtain ⟨b1, o1, rfl, hb1, hc1⟩ := H.out.get hx
        have hin := H.out.inn m (List.mem_of_getElem? hx)
        have hsm := HS.out.2 m (List.mem_of_getElem? hx)
        obtain ⟨x', sf, sp⟩ := m
        simp only at hmx hsm
        subst hmx
        obtain ⟨⟨Af, cf, hf1, hf2⟩, _⟩ := hin
        simp only at hf1 hf2
        subst hf1
        have p2 := hc1 2 _ (ndL_get (x', .slice Af x'.fr.length cf, sp)).2.2.1
        obtain ⟨nf, hnf⟩ : ∃ z, z = x'.fr.length := ⟨_, rfl⟩
        rw [← hnf] at p2 hf2
        have hnf1 : nf ≤ 1000000 := by rw [hnf]; exact hsm.1
        have HNF := Lib.hid hnf
        have RF := Lib.hid hf2
        have hki : (k : Int) < (n : Int) := by omega
        have hk0 : (0 : Int) ≤ (k : Int) := by omega
        have hk1 : decide ((k : Int) < 0) = false := decide_eq_false (by omega)
        have hs1 : ((s : Int) + 1 == 0) = false := by simp; omega
        have hs2 : (0 : Int) ≤ (s : Int) := by omega
        have hs3 : (s : Int) ≤ 100 := by omega
        clear hc1 hx h1 h2 h3 hv hvb hsm hnf hf2 hs100 HREC hb1
        have hcast : ((s + 1 : Nat) : Int) = (s : Int) + 1 := by omega
        rw [hcast]
        clear hcast
        go_enter Try.func46, Try.ntmps46
        go_wp2_with fail
        refine HFI.out.mono ?_
        rintro e w1 ⟨rfl, rfl⟩
        go_wp2_with fail
        go_loop [10] (fun t => ∃ j : Nat, j ≤ nf ∧ t = .int .i64 j ∧ RowKit.Hid (∀ y ∈ x'.fr.take j, (decide (y = tg) || aboveN L tg s y) = false)) (fun t => nf - (intOf t).toNat)
        case atStart => exact ⟨0, Nat.zero_le _, rfl, Lib.hid (by simp)⟩
        case round =>
          obtain ⟨j, hj, rfl, HB⟩ := hrel
          by_cases hjn : j < nf
          · have hji : (j : Int) < (nf : Int) := by omega
            have hj0 : (0 : Int) ≤ (j : Int) := by omega
            obtain ⟨b, off, u, rfl, hb, hu, hc⟩ := RF.out.one hjn
            obtain ⟨y, hy⟩ : ∃ y, x'.fr[j]? = some y := ⟨_, List.getElem?_eq_getElem (by rw [← HNF.out]; exact hjn)⟩
            rw [List.getElem?_map, hy] at hu
            simp at hu
            subst hu
            have HY := Lib.hid hy
            clear hy hb
            by_cases e : y = tg
            · have hv : vb = true := by rw [HV.out]; exact any_take HY.out (by simp [e])
              have H := Lib.hid hv
              have he : (y == tg) = true := by simpa using e
              clear hv e
              go_wp2_with fail
              go_ret
              exact ⟨by rw [H.out]; rfl, rfl⟩
            · have he : (y == tg) = false := by simpa using e
              have HRY := HR.out y
              obtain ⟨ab, hab⟩ : ∃ b, b = aboveN L tg s y := ⟨_, rfl⟩
              rw [← hab] at HRY
              have HRY := Lib.hid HRY
              have HAB := Lib.hid hab
              clear hab
              cases ab with
              | true =>
                have hv : vb = true := by rw [HV.out]; exact any_take HY.out (by rw [← HAB.out]; simp)
                have H := Lib.hid hv
                clear hv e
                go_wp2_with fail
                refine HRY.out.mono ?_
                rintro e w1 ⟨rfl, rfl⟩
                go_wp2_with fail
                go_ret
                exact ⟨by rw [H.out]; rfl, rfl⟩
              | false =>
                have HB2 := Lib.hid (show ∀ y ∈ x'.fr.take (j + 1), (decide (y = tg) || aboveN L tg s y) = false from fun z hz => by
                  rw [List.take_add_one, HY.out] at hz
                  rcases List.mem_append.1 hz with hz | hz
                  · exact HB.out z hz
                  · simp at hz; rw [hz, ← HAB.out]; simp [e])
                clear e
                go_wp2_with fail
                refine HRY.out.mono ?_
                rintro e w1 ⟨rfl, rfl⟩
                go_wp2_with fail
                go_round
                case rel => exact ⟨j + 1, by omega, by go_num, HB2⟩
                case measure => simp [intOf]; omega
          · obtain rfl : j = nf := by omega
            have hv : vb = false := by
              have htk : x'.fr.take j = x'.fr := List.take_of_length_le (by rw [HNF.out]; exact Nat.le_refl _)
              have h := HB.out
              rw [htk] at h
              rw [HV.out]
              exact any_none h
            have H := Lib.hid hv
            clear hv
            go_wp2_with fail
            go_ret
            exact ⟨by rw [H.out]; rfl, rfl⟩
def rngI (k : Nat) : List Int := (List.range k).map fun (i : Nat) => (i : Int)
theorem rngI_succ (k : Nat) : rngI (k + 1) = rngI k ++ [(k : Int)] := by unfold rngI; rw [List.range_succ, List.map_append]; rfl
theorem filt_len (p : Int → Bool) (k : Nat) : ((rngI k).filter p).length ≤ k := Nat.le_trans (List.length_filter_le _ _) (by simp [rngI])
/-- A node's children, by the document. -/
def childR (L : List Nd) (id : Int) : List Int := (rngI 8).filter fun n => hasI (getN L n).fr id
/-- What is below a node, by the document. -/
def belowR (L : List Nd) (id : Int) : List Int := (rngI 8).filter fun n => aboveN L id 9 n
theorem getN_some {L : List Nd} {id : Int} {x : Nd} (h : findN L id = some x) : getN L id = x := by unfold getN; rw [h]; rfl
theorem getN_none {L : List Nd} {id : Int} (h : findN L id = none) : getN L id = zNd := by unfold getN; rw [h]; rfl
theorem filt_yes {p : Int → Bool} {k : Nat} (h : p k = true) : (rngI (k + 1)).filter p = (rngI k).filter p ++ [(k : Int)] := by rw [rngI_succ, List.filter_append]; simp [h]
theorem filt_no {p : Int → Bool} {k : Nat} (h : p k = false) : (rngI (k + 1)).filter p = (rngI k).filter p := by rw [rngI_succ, List.filter_append]; simp [h]
/-- What holds in the loops of Children and Below. -/
structure FltJ (p : Int → Bool) (w wr : World) (k : Nat) (A' : Option Addr) (q c' : Nat) : Prop where
  fr : Fr w.heap.size [] w wr
  own : wr.ownsRow w.heap.size 3 1 (.slice A' q c') q (((rngI k).filter p).map (Value.int .i64))
  len : q = ((rngI k).filter p).length
theorem FltJ.mv {p : Int → Bool} {w wr wi : World} {k : Nat} {A' : Option Addr} {q c' : Nat} (h : FltJ p w wr k A' q c') (hf : Fr wr.heap.size [] wr wi) : FltJ p w wi k A' q c' :=
  ⟨h.fr.trans (hf.mono (B' := w.heap.size) (L' := []) h.fr.size (by simp)), ownsRow_fr h.own hf (fun q hq => ⟨(h.own.lt q hq).2, by simp⟩), h.len⟩
theorem FltJ.stay {p : Int → Bool} {w wr : World} {k : Nat} {A' : Option Addr} {q c' : Nat} (h : FltJ p w wr k A' q c') (hp : p k = false) : FltJ p w wr (k + 1) A' q c' :=
  ⟨h.fr, by rw [filt_no hp]; exact h.own, by rw [filt_no hp]; exact h.len⟩
theorem FltJ.more {p : Int → Bool} {w w3 w4 : World} {k : Nat} {A' A3 : Option Addr} {q c' c3 : Nat} {news : Array Value} (h : FltJ p w w3 k A' q c') (hp : p k = true)
    (ho : w4.ownsRow w.heap.size 3 1 (.slice A3 (q + 1) c3) (q + 1) (((rngI k).filter p).map (Value.int .i64) ++ [Value.int .i64 k])) (hg : (w3.alloc (.cells news 3)).grownBy w4 (Value.ownBlock (.slice A' q c'))) : FltJ p w w4 (k + 1) A3 (q + 1) c3 := by
  refine ⟨h.fr.trans (Fr.of_app hg h.own h.fr.size), ?_, ?_⟩
  · rw [filt_yes hp, List.map_append]; exact ho
  · rw [filt_yes hp, List.length_append, ← h.len]; rfl
set_option maxRecDepth 100000 in
set_option maxHeartbeats 2000000 in
theorem rchild_any (id : Int) (A : Option Addr) (c B n : Nat) (M : List Ndm) (w : World) (h : Nds w B A n M) (hB : B ≤ w.heap.size) (hs : Small M) :
    Calls Try.prog 22 #[.slice A n c, .int .i64 id] w (IntsOut (childR (fstN M) id) w) := by
  obtain ⟨L, hL⟩ : ∃ L, L = fstN M := ⟨_, rfl⟩
  have HL := Lib.hid hL
  have H := Lib.hid h
  have HS := Lib.hid hs
  have hm : n ≤ 1000000 := by rw [h.num]; exact hs.1
  rw [← hL]
  obtain ⟨p, hp⟩ : ∃ p : Int → Bool, p = fun n => hasI (getN L n).fr id := ⟨_, rfl⟩
  have HP := Lib.hid hp
  have HR := Lib.hid (show childR L id = (rngI 8).filter p by rw [hp]; rfl)
  have HJ := Lib.hid (show FltJ p w (w.alloc (.cells #[] 3)) 0 (some ⟨w.heap.size, 0, none⟩) 0 0 from ⟨(Fr.refl w.heap.size [] w).alloc (Nat.le_refl _) _, iowns_empty w, rfl⟩)
  clear hL h hs hp
  go_enter Try.func22, Try.ntmps22
  go_wp2_with fail
  generalize w.alloc (.cells #[] 3) = w1 at *
  go_loopg [5, 6] 8 (fun g s5 s6 wr => ∃ (k : Nat) (A' : Option Addr) (q c' : Nat), k ≤ 8 ∧ g = 8 - k ∧ s6 = .int .i64 k ∧ s5 = .slice A' q c' ∧ RowKit.Hid (FltJ p w wr k A' q c'))
  case atStart => exact ⟨0, _, 0, 0, Nat.zero_le _, rfl, rfl, rfl, HJ⟩
  case round =>
    obtain ⟨k, A', q, c', hk, rfl, rfl, rfl, HJ⟩ := hrel
    have hq8 : q ≤ 8 := by have h1 := HJ.out.len; have h2 := filt_len p k; omega
    by_cases hkn : k < 8
    · have hki : (k : Int) < 8 := by omega
      have hk0 : (0 : Int) ≤ (k : Int) := by omega
      have HND := H.out.frw HJ.out.fr hB (by simp)
      have HFI := rfind_any k A c B n M wr HND hm
      rw [← HL.out] at HFI
      rcases ixN_cases L k with ⟨h1, h2⟩ | ⟨i, x, h1, h2, h3⟩
      · rw [h1] at HFI
        have HFI := Lib.hid HFI
        have HJ2 := Lib.hid (HJ.out.stay (by rw [HP.out]; simp only; rw [getN_none h2]; rfl))
        clear h1 h2 HND
        go_wp2_with fail
        refine HFI.out.mono ?_
        rintro e w2 ⟨rfl, rfl⟩
        go_wp2_with fail
        go_roundg (8 - (k + 1))
        case measure => omega
        case rel => exact ⟨k + 1, A', q, c', by omega, rfl, by go_num, rfl, HJ2⟩
      · rw [h1] at HFI
        have HFI := Lib.hid HFI
        have hin : i < n := by
          have := (List.getElem?_eq_some_iff.1 h2).1
          rw [HL.out] at this
          simp [fstN] at this
          rw [H.out.num]
          exact this
        obtain ⟨m, hx⟩ : ∃ m, M[i]? = some m := ⟨_, List.getElem?_eq_getElem (by rw [← H.out.num]; exact hin)⟩
        have hmx : m.1 = x := by
          have := h2
          rw [HL.out] at this
          simp [fstN, hx] at this
          exact this
        obtain ⟨b1, o1, rfl, hb1, hc1⟩ := HND.get hx
        have hinn := HND.inn m (List.mem_of_getElem? hx)
        have hsm := HS.out.2 m (List.mem_of_getElem? hx)
        obtain ⟨x', sf, sp⟩ := m
        simp only at hmx hsm
        subst hmx
        obtain ⟨⟨Af, cf, hf1, hf2⟩, _⟩ := hinn
        simp only at hf1 hf2
        subst hf1
        have p2 := hc1 2 _ (ndL_get (x', .slice Af x'.fr.length cf, sp)).2.2.1
        have HH := rhas_any id Af cf B x'.fr.length x'.fr wr rfl hsm.1 hf2
        obtain ⟨nf, hnf⟩ : ∃ z, z = x'.fr.length := ⟨_, rfl⟩
        obtain ⟨pb, hpb⟩ : ∃ b, b = hasI x'.fr id := ⟨_, rfl⟩
        rw [← hnf] at p2 HH
        rw [← hpb] at HH
        have HPB := Lib.hid (show p k = pb by rw [HP.out, hpb]; simp only; rw [getN_some h3])
        have HH := Lib.hid HH
        have hki : (i : Int) < (n : Int) := by omega
        have hk0 : (0 : Int) ≤ (i : Int) := by omega
        clear hc1 hx h1 h2 h3 hsm hnf hf2 hb1 hpb HND
        cases pb with
        | false =>
          have HJ2 := Lib.hid (HJ.out.stay HPB.out)
          go_wp2_with fail
          refine HFI.out.mono ?_
          rintro e w2 ⟨rfl, rfl⟩
          go_wp2_with fail
          refine HH.out.mono ?_
          rintro e w2 ⟨rfl, rfl⟩
          go_wp2_with fail
          go_roundg (8 - (k + 1))
          case measure => omega
          case rel => exact ⟨k + 1, A', q, c', by omega, rfl, by go_num, rfl, HJ2⟩
        | true =>
          go_wp2_with fail
          refine HFI.out.mono ?_
          rintro e w2 ⟨rfl, rfl⟩
          go_wp2_with fail
          refine HH.out.mono ?_
          rintro e w2 ⟨rfl, rfl⟩
          have hown := HJ.out.own
          have hsz := HJ.out.fr.size
          go_wp2_with (at_builtin; refine wpList_app_lit _ rfl (.tmp 27) (.tmp 29) intsTy rfl w.heap.size (.slice A' q c') q _ rfl hown 1 1 _ rfl rfl (by simp [Value.oneCell']) (by omega) (by omega) hsz ?_; intro A3 c3 w4 hown4 hg4 hat4)
          have HJ5 := Lib.hid (HJ.out.more HPB.out hown4 hg4)
          clear hown4 hg4 hat4 hown
          go_roundg (8 - (k + 1))
          case measure => omega
          case rel => exact ⟨k + 1, A3, q + 1, c3, by omega, rfl, by go_num, rfl, HJ5⟩
    · obtain rfl : k = 8 := by omega
      go_wp2_with fail
      go_ret
      unfold IntsOut
      rw [HR.out]
      exact ⟨A', c', q, HJ.out.len, rfl, HJ.out.own, HJ.out.fr⟩
set_option maxRecDepth 100000 in
set_option maxHeartbeats 2000000 in
theorem rbelow_any (id : Int) (A : Option Addr) (c B n : Nat) (M : List Ndm) (w : World) (h : Nds w B A n M) (hB : B ≤ w.heap.size) (hs : Small M) :
    Calls Try.prog 20 #[.slice A n c, .int .i64 id] w (IntsOut (belowR (fstN M) id) w) := by
  obtain ⟨L, hL⟩ : ∃ L, L = fstN M := ⟨_, rfl⟩
  have HL := Lib.hid hL
  have H := Lib.hid h
  have HS := Lib.hid hs
  have hm : n ≤ 1000000 := by rw [h.num]; exact hs.1
  rw [← hL]
  obtain ⟨p, hp⟩ : ∃ p : Int → Bool, p = fun n => aboveN L id 9 n := ⟨_, rfl⟩
  have HP := Lib.hid hp
  have HR := Lib.hid (show belowR L id = (rngI 8).filter p by rw [hp]; rfl)
  have HJ := Lib.hid (show FltJ p w (w.alloc (.cells #[] 3)) 0 (some ⟨w.heap.size, 0, none⟩) 0 0 from ⟨(Fr.refl w.heap.size [] w).alloc (Nat.le_refl _) _, iowns_empty w, rfl⟩)
  clear hL h hs hp
  go_enter Try.func20, Try.ntmps20
  go_wp2_with fail
  generalize w.alloc (.cells #[] 3) = w1 at *
  go_loopg [5, 6] 8 (fun g s5 s6 wr => ∃ (k : Nat) (A' : Option Addr) (q c' : Nat), k ≤ 8 ∧ g = 8 - k ∧ s6 = .int .i64 k ∧ s5 = .slice A' q c' ∧ RowKit.Hid (FltJ p w wr k A' q c'))
  case atStart => exact ⟨0, _, 0, 0, Nat.zero_le _, rfl, rfl, rfl, HJ⟩
  case round =>
    obtain ⟨k, A', q, c', hk, rfl, rfl, rfl, HJ⟩ := hrel
    have hq8 : q ≤ 8 := by have h1 := HJ.out.len; have h2 := filt_len p k; omega
    by_cases hkn : k < 8
    · have hki : (k : Int) < 8 := by omega
      have hk0 : (0 : Int) ≤ (k : Int) := by omega
      have HND := H.out.frw HJ.out.fr hB (by simp)
      have HFI := rfind_any k A c B n M wr HND hm
      have HAB := rabove_any id A c B n M wr HND HS.out 9 k (by omega)
      rw [← HL.out] at HFI HAB
      rcases ixN_cases L k with ⟨h1, h2⟩ | ⟨i, x, h1, h2, h3⟩
      · rw [h1] at HFI
        have HFI := Lib.hid HFI
        have HJ2 := Lib.hid (HJ.out.stay (by rw [HP.out]; simp only; unfold aboveN; rw [h2]))
        clear h1 h2 HND HAB
        go_wp2_with fail
        refine HFI.out.mono ?_
        rintro e w2 ⟨rfl, rfl⟩
        go_wp2_with fail
        go_roundg (8 - (k + 1))
        case measure => omega
        case rel => exact ⟨k + 1, A', q, c', by omega, rfl, by go_num, rfl, HJ2⟩
      · rw [h1] at HFI
        have HFI := Lib.hid HFI
        obtain ⟨pb, hpb⟩ : ∃ b, b = aboveN L id 9 k := ⟨_, rfl⟩
        rw [← hpb] at HAB
        have HPB := Lib.hid (show p k = pb by rw [HP.out, hpb])
        have HAB : RowKit.Hid (Calls Try.prog 46 #[.slice A n c, .int .i64 k, .int .i64 id, .int .i64 9] wr fun e w' => e = .returned (.bool pb) ∧ wr = w') := HAB
        have hi0 : (0 : Int) ≤ (i : Int) := by omega
        clear h1 h2 h3 hpb HND
        cases pb with
        | false =>
          have HJ2 := Lib.hid (HJ.out.stay HPB.out)
          go_wp2_with fail
          refine HFI.out.mono ?_
          rintro e w2 ⟨rfl, rfl⟩
          go_wp2_with fail
          refine HAB.out.mono ?_
          rintro e w2 ⟨rfl, rfl⟩
          go_wp2_with fail
          go_roundg (8 - (k + 1))
          case measure => omega
          case rel => exact ⟨k + 1, A', q, c', by omega, rfl, by go_num, rfl, HJ2⟩
        | true =>
          go_wp2_with fail
          refine HFI.out.mono ?_
          rintro e w2 ⟨rfl, rfl⟩
          go_wp2_with fail
          refine HAB.out.mono ?_
          rintro e w2 ⟨rfl, rfl⟩
          have hown := HJ.out.own
          have hsz := HJ.out.fr.size
          go_wp2_with (at_builtin; refine wpList_app_lit _ rfl (.tmp 22) (.tmp 24) intsTy rfl w.heap.size (.slice A' q c') q _ rfl hown 1 1 _ rfl rfl (by simp [Value.oneCell']) (by omega) (by omega) hsz ?_; intro A3 c3 w4 hown4 hg4 hat4)
          have HJ5 := Lib.hid (HJ.out.more HPB.out hown4 hg4)
          clear hown4 hg4 hat4 hown
          go_roundg (8 - (k + 1))
          case measure => omega
          case rel => exact ⟨k + 1, A3, q + 1, c3, by omega, rfl, by go_num, rfl, HJ5⟩
    · obtain rfl : k = 8 := by omega
      go_wp2_with fail
      go_ret
      unfold IntsOut
      rw [HR.out]
      exact ⟨A', c', q, HJ.out.len, rfl, HJ.out.own, HJ.out.fr⟩
end Go.Proofs.Ytddngibfhklnfaa
