/- The document's order of a right graph. -/
import Derived.Test.YtddngibfhklnfaaRfB
namespace Go.Proofs.Ytddngibfhklnfaa
open Go.RowKit Go.Fb
/-- May a number stand next, by the document? -/
def okR (L : List Nd) (out : List Int) (id : Int) : Bool := match findN L id with
  | none => false
  | some x => readyB out x
/-- The least number so far, from the greatest down. -/
def nxF (p : Int → Bool) : Nat → Int
  | 0 => -1
  | j + 1 => if p (7 - (j : Int)) then 7 - (j : Int) else nxF p j
theorem nxF_least {p : Int → Bool} {v : Int} (hv0 : 0 ≤ v) (hv7 : v ≤ 7) (hp : p v = true) (hl : ∀ u, 0 ≤ u → u < v → p u = false) : ∀ j : Nat, 7 - v < j → j ≤ 8 → nxF p j = v
  | 0, h, _ => by omega
  | j + 1, h, h8 => by
    unfold nxF
    by_cases e : 7 - (j : Int) = v
    · rw [e, hp, if_pos rfl]
    · rw [hl (7 - (j : Int)) (by omega) (by omega)]
      simp only [Bool.false_eq_true, if_false]
      exact nxF_least hv0 hv7 hp hl j (by omega) (by omega)
theorem next_right {L : List Nd} (hr : RightG L) {k : Nat} (hk : (sortF (normL L) k).length = k) (hkn : k < L.length) : ∃ x, (normL L).find? (readyB (sortF (normL L) k)) = some x ∧ nxF (okR L (sortF (normL L) k)) 8 = x.id := by
  cases hf : (normL L).find? (readyB (sortF (normL L) k)) with
  | none =>
    have h1 := sortF_end (L := normL L) (k := k) (by rw [normL_len]; omega) hf
    have h2 := hr.complete
    have h3 : sortN L = sortF (normL L) k := by unfold sortN; rw [← normL_len L, h1]
    unfold Complete at h2
    rw [h3, hk] at h2
    omega
  | some x =>
    refine ⟨x, rfl, ?_⟩
    have hx := List.mem_of_find?_eq_some hf
    have hrd : readyB (sortF (normL L) k) x = true := by simpa using List.find?_some hf
    have hxL := normL_mem.1 hx
    have hid := hr.each x hxL
    unfold nodeB at hid
    simp only [Bool.and_eq_true, decide_eq_true_eq] at hid
    refine nxF_least hid.1 (by have := hid.2.1; omega) ?_ ?_ 8 (by have := hid.2.1; omega) (by omega)
    · unfold okR
      rw [findN_one hr.uni hxL]
      exact hrd
    · intro u hu0 hu
      unfold okR
      cases hy : findN L u with
      | none => rfl
      | some y =>
        simp only
        have hyi := findN_id hy
        have hyn := normL_mem.2 (findN_mem hy)
        cases hb : readyB (sortF (normL L) k) y with
        | false => rfl
        | true =>
          exfalso
          obtain ⟨l1, l2, h1, h2⟩ := (List.find?_eq_some_iff_append.1 hf).2
          have hs := normL_sorted L
          rw [h1] at hyn hs
          rcases List.mem_append.1 hyn with h | h
          · have := h2 y h
            rw [hb] at this
            cases this
          · rcases List.mem_cons.1 h with h | h
            · rw [h] at hyi; omega
            · have h3 := (List.pairwise_append.1 hs).2.1
              have := (List.pairwise_cons.1 h3).1 y h
              omega
/-- What holds in the loop of the document's Order. -/
structure OrJ (L : List Nd) (w wr : World) (k : Nat) (A' : Option Addr) (c' : Nat) : Prop where
  fr : Fr w.heap.size [] w wr
  own : wr.ownsRow w.heap.size 3 1 (.slice A' k c') k ((sortF (normL L) k).map (Value.int .i64))
  len : k = (sortF (normL L) k).length
theorem OrJ.more {L : List Nd} {w w3 w4 : World} {k : Nat} {A' A3 : Option Addr} {c' c3 : Nat} {news : Array Value} {x : Nd} (h : OrJ L w w3 k A' c') (hf : (normL L).find? (readyB (sortF (normL L) k)) = some x)
    (ho : w4.ownsRow w.heap.size 3 1 (.slice A3 (k + 1) c3) (k + 1) ((sortF (normL L) k).map (Value.int .i64) ++ [Value.int .i64 x.id])) (hg : (w3.alloc (.cells news 3)).grownBy w4 (Value.ownBlock (.slice A' k c'))) : OrJ L w w4 (k + 1) A3 c3 := by
  refine ⟨h.fr.trans (Fr.of_app hg h.own h.fr.size), ?_, ?_⟩
  · rw [sortF_some hf, List.map_append]; exact ho
  · rw [sortF_some hf, List.length_append, ← h.len]; rfl
theorem all_take {l : List Int} {out : List Int} {j : Nat} {y : Int} (hy : l[j]? = some y) : (l.take (j + 1)).all (hasI out) = ((l.take j).all (hasI out) && hasI out y) := by
  rw [List.take_add_one, hy, List.all_append]; simp
set_option maxRecDepth 100000 in
set_option maxHeartbeats 4000000 in
theorem rorder_any (A : Option Addr) (c B n : Nat) (M : List Ndm) (w : World) (h : Nds w B A n M) (hB : B ≤ w.heap.size) (hs : Small M) (hr : RightG (fstN M)) :
    Calls Try.prog 19 #[.slice A n c] w (IntsOut (sortN (fstN M)) w) := by
  obtain ⟨L, hL⟩ : ∃ L, L = fstN M := ⟨_, rfl⟩
  have HL := Lib.hid hL
  have H := Lib.hid h
  have HS := Lib.hid hs
  have hm : n ≤ 1000000 := by rw [h.num]; exact hs.1
  rw [← hL] at hr ⊢
  have hnl : L.length = n := by rw [hL, h.num]; simp [fstN]
  have hn8 : n ≤ 8 := by have := hr.len; omega
  have HNL := Lib.hid hnl
  have HRG := Lib.hid hr
  have HJ := Lib.hid (show OrJ L w (w.alloc (.cells #[] 3)) 0 (some ⟨w.heap.size, 0, none⟩) 0 from ⟨(Fr.refl w.heap.size [] w).alloc (Nat.le_refl _) _, iowns_empty w, rfl⟩)
  clear hL h hs hr hnl
  go_enter Try.func19, Try.ntmps19
  go_wp2_with fail
  generalize w.alloc (.cells #[] 3) = w1 at *
  go_loopg [3] n (fun g s3 wr => ∃ (k : Nat) (A' : Option Addr) (c' : Nat), k ≤ n ∧ g = n - k ∧ s3 = .slice A' k c' ∧ RowKit.Hid (OrJ L w wr k A' c'))
  case atStart => exact ⟨0, _, 0, Nat.zero_le _, rfl, rfl, HJ⟩
  case round =>
    obtain ⟨k, A', c', hk, rfl, rfl, HJ⟩ := hrel
    by_cases hkn : k < n
    · have hki : (k : Int) < (n : Int) := by omega
      have hk0 : (0 : Int) ≤ (k : Int) := by omega
      obtain ⟨x, hfx, hnx⟩ := next_right HRG.out HJ.out.len.symm (by rw [HNL.out]; exact hkn)
      obtain ⟨out, hout⟩ : ∃ o, o = sortF (normL L) k := ⟨_, rfl⟩
      rw [← hout] at hnx
      have HOUT := Lib.hid hout
      have HFX := Lib.hid hfx
      have HNX := Lib.hid hnx
      have HND := Lib.hid (H.out.frw HJ.out.fr hB (by simp))
      have hown := HJ.out.own
      have hlen := HJ.out.len
      rw [← hout] at hown hlen
      have HRO := Lib.hid (fun (v : Int) => rhas_any v A' c' _ k out wr hlen (by omega) (Reads.of_own hown))
      clear hown hlen hfx hnx hout
      obtain ⟨wq, rfl⟩ : ∃ wq : World, wq = wr := ⟨_, rfl⟩
      go_wp2_with fail
      go_loopg [4, 5] 8 (fun g s4 s5 wr => wr = wq ∧ ∃ (j : Nat) (d v : Int), j ≤ 8 ∧ g = 8 - j ∧ s5 = .int .i64 d ∧ d ≤ 7 ∧ -1 ≤ d ∧ s4 = .int .i64 v ∧ RowKit.Hid (d = 7 - (j : Int)) ∧ RowKit.Hid (v = nxF (okR L out) j))
      case atStart => exact ⟨rfl, 0, 7, -1, Nat.zero_le _, rfl, rfl, by omega, by omega, rfl, Lib.hid (by omega), Lib.hid rfl⟩
      case round =>
        obtain ⟨rfl, j, d, v, hj, rfl, rfl, hd7, hd1, rfl, HD, HV⟩ := hrel
        have hnx : nxF (okR L out) (j + 1) = if okR L out d then d else v := by
          conv => lhs; unfold nxF
          rw [← HD.out, ← HV.out]
        have HNX1 := Lib.hid hnx
        clear hnx
        by_cases hd0 : 0 ≤ d
        · have hj8 : j < 8 := by have := HD.out; omega
          have HD2 := Lib.hid (show d - 1 = 7 - ((j + 1 : Nat) : Int) by have := HD.out; omega)
          have HFI := rfind_any d A c B n M wr HND.out hm
          rw [← HL.out] at HFI
          rcases ixN_cases L d with ⟨h1, h2⟩ | ⟨i, x1, h1, h2, h3⟩
          · rw [h1] at HFI
            have HFI := Lib.hid HFI
            have HV2 := Lib.hid (show v = nxF (okR L out) (j + 1) by rw [HNX1.out]; unfold okR; rw [h2]; rfl)
            clear h1 h2
            go_wp2_with fail
            refine HFI.out.mono ?_
            rintro e w2 ⟨rfl, rfl⟩
            go_wp2_with fail
            go_roundg (8 - (j + 1))
            case measure => omega
            case rel => exact ⟨rfl, j + 1, d - 1, v, by omega, rfl, by go_num, by omega, by omega, rfl, HD2, HV2⟩
          · rw [h1] at HFI
            have HFI := Lib.hid HFI
            have hin : i < n := by
              have := (List.getElem?_eq_some_iff.1 h2).1
              rw [HL.out] at this
              simp [fstN] at this
              rw [H.out.num]
              exact this
            obtain ⟨m, hx⟩ : ∃ m, M[i]? = some m := ⟨_, List.getElem?_eq_getElem (by rw [← H.out.num]; exact hin)⟩
            have hmx : m.1 = x1 := by
              have := h2
              rw [HL.out] at this
              simp [fstN, hx] at this
              exact this
            obtain ⟨b1, o1, rfl, hb1, hc1⟩ := HND.out.get hx
            have hinn := HND.out.inn m (List.mem_of_getElem? hx)
            have hsm := HS.out.2 m (List.mem_of_getElem? hx)
            obtain ⟨x', sf, sp⟩ := m
            simp only at hmx hsm
            subst hmx
            obtain ⟨⟨Af, cf, hf1, hf2⟩, _⟩ := hinn
            simp only at hf1 hf2
            subst hf1
            have p2 := hc1 2 _ (ndL_get (x', .slice Af x'.fr.length cf, sp)).2.2.1
            obtain ⟨nf, hnf⟩ : ∃ z, z = x'.fr.length := ⟨_, rfl⟩
            rw [← hnf] at p2 hf2
            have hnf1 : nf ≤ 1000000 := by rw [hnf]; exact hsm.1
            have HNF := Lib.hid hnf
            have RF := Lib.hid hf2
            obtain ⟨hb, hhb⟩ : ∃ b, b = hasI out d := ⟨_, rfl⟩
            have HHD := HRO.out d
            rw [← hhb] at HHD
            have HHD := Lib.hid HHD
            have HOK := Lib.hid (show okR L out d = (!hb && x'.fr.all (hasI out)) by unfold okR; rw [h3]; simp only [readyB]; rw [findN_id h3, hhb])
            have hii : (i : Int) < (n : Int) := by omega
            have hi0 : (0 : Int) ≤ (i : Int) := by omega
            have hi1 : decide ((i : Int) < 0) = false := decide_eq_false (by omega)
            clear hc1 hx h1 h2 h3 hsm hnf hf2 hb1 hhb
            cases hb with
            | true =>
              have HV2 := Lib.hid (show v = nxF (okR L out) (j + 1) by rw [HNX1.out, HOK.out]; rfl)
              go_wp2_with fail
              refine HFI.out.mono ?_
              rintro e w2 ⟨rfl, rfl⟩
              go_wp2_with fail
              refine HHD.out.mono ?_
              rintro e w2 ⟨rfl, rfl⟩
              go_wp2_with fail
              go_roundg (8 - (j + 1))
              case measure => omega
              case rel => exact ⟨rfl, j + 1, d - 1, v, by omega, rfl, by go_num, by omega, by omega, rfl, HD2, HV2⟩
            | false =>
              go_wp2_with fail
              refine HFI.out.mono ?_
              rintro e w2 ⟨rfl, rfl⟩
              go_wp2_with fail
              refine HHD.out.mono ?_
              rintro e w2 ⟨rfl, rfl⟩
              go_wp2_with fail
              go_loopg [7, 8] nf (fun g s7 s8 wx => wx = wr ∧ ∃ (t : Nat) (b : Bool), t ≤ nf ∧ g = nf - t ∧ s8 = .int .i64 t ∧ s7 = .bool b ∧ RowKit.Hid (b = (x'.fr.take t).all (hasI out)))
              case atStart => exact ⟨rfl, 0, true, Nat.zero_le _, rfl, rfl, rfl, Lib.hid (by simp)⟩
              case round =>
                obtain ⟨rfl, t, b, ht, rfl, rfl, rfl, HAL⟩ := hrel
                by_cases htn : t < nf
                · have hti : (t : Int) < (nf : Int) := by omega
                  have ht0 : (0 : Int) ≤ (t : Int) := by omega
                  obtain ⟨b2, off, u, rfl, hb2, hu, hc⟩ := RF.out.one htn
                  obtain ⟨y, hy⟩ : ∃ y, x'.fr[t]? = some y := ⟨_, List.getElem?_eq_getElem (by rw [← HNF.out]; exact htn)⟩
                  rw [List.getElem?_map, hy] at hu
                  simp at hu
                  subst hu
                  have HS1 := Lib.hid (all_take (out := out) hy)
                  clear hy hb2
                  cases b with
                  | false =>
                    have HA2 := Lib.hid (show false = (x'.fr.take (t + 1)).all (hasI out) by rw [HS1.out, ← HAL.out]; rfl)
                    go_wp2_with fail
                    go_roundg (nf - (t + 1))
                    case measure => omega
                    case rel => exact ⟨rfl, t + 1, false, by omega, rfl, by go_num, rfl, HA2⟩
                  | true =>
                    obtain ⟨yb, hyb⟩ : ∃ b, b = hasI out y := ⟨_, rfl⟩
                    have HHY := HRO.out y
                    rw [← hyb] at HHY
                    have HHY := Lib.hid HHY
                    have HA2 := Lib.hid (show yb = (x'.fr.take (t + 1)).all (hasI out) by rw [HS1.out, ← HAL.out, hyb]; rfl)
                    clear hyb
                    go_wp2_with fail
                    refine HHY.out.mono ?_
                    rintro e w2 ⟨rfl, rfl⟩
                    go_wp2_with fail
                    go_roundg (nf - (t + 1))
                    case measure => omega
                    case rel => exact ⟨rfl, t + 1, yb, by omega, rfl, by go_num, rfl, HA2⟩
                · obtain rfl : t = nf := by omega
                  have htk : x'.fr.take t = x'.fr := List.take_of_length_le (by rw [HNF.out]; exact Nat.le_refl _)
                  have hal := HAL.out
                  rw [htk] at hal
                  have HOK2 := Lib.hid (show okR L out d = b by rw [HOK.out, ← hal]; rfl)
                  clear htk hal
                  cases b with
                  | true =>
                    have HV2 := Lib.hid (show d = nxF (okR L out) (j + 1) by rw [HNX1.out, HOK2.out]; rfl)
                    go_wp2_with fail
                    go_roundg (8 - (j + 1))
                    case measure => omega
                    case rel => exact ⟨rfl, j + 1, d - 1, d, by omega, rfl, by go_num, by omega, by omega, rfl, HD2, HV2⟩
                  | false =>
                    have HV2 := Lib.hid (show v = nxF (okR L out) (j + 1) by rw [HNX1.out, HOK2.out]; rfl)
                    go_wp2_with fail
                    go_roundg (8 - (j + 1))
                    case measure => omega
                    case rel => exact ⟨rfl, j + 1, d - 1, v, by omega, rfl, by go_num, by omega, by omega, rfl, HD2, HV2⟩
        · have hj8 : j = 8 := by have := HD.out; omega
          subst hj8
          have hvx : v = x.id := by rw [HV.out]; exact HNX.out
          have hx0 : 0 ≤ v := by
            have hid := HRG.out.each x (normL_mem.1 (List.mem_of_find?_eq_some HFX.out))
            unfold nodeB at hid
            simp only [Bool.and_eq_true, decide_eq_true_eq] at hid
            rw [hvx]
            exact hid.1
          have HVX := Lib.hid hvx
          have hv1 : decide (v < 0) = false := decide_eq_false (by omega)
          have hown := HJ.out.own
          have hsz := HJ.out.fr.size
          clear hvx
          go_wp2_with (at_builtin; refine wpList_app_lit _ rfl (.tmp 57) (.tmp 59) intsTy rfl w.heap.size (.slice A' k c') k _ rfl hown 1 1 _ rfl rfl (by simp [Value.oneCell']) (by omega) (by omega) hsz ?_; intro A3 c3 w4 hown4 hg4 hat4)
          have HJ5 := Lib.hid (HJ.out.more HFX.out (by rw [← HVX.out]; exact hown4) hg4)
          clear hown4 hg4 hat4 hown
          go_roundg (n - (k + 1))
          case measure => omega
          case rel => exact ⟨k + 1, A3, c3, by omega, rfl, rfl, HJ5⟩
    · obtain rfl : k = n := by omega
      have HE := Lib.hid (show sortN L = sortF (normL L) k by unfold sortN; rw [HNL.out])
      go_wp2_with fail
      go_ret
      unfold IntsOut
      rw [HE.out]
      exact ⟨A', c', k, HJ.out.len, rfl, HJ.out.own, HJ.out.fr⟩
end Go.Proofs.Ytddngibfhklnfaa
