/- The document's words on graphs: Has, Ints, Find, above. -/
import Derived.Test.YtddngibfhklnfaaNdM
namespace Go.Proofs.Ytddngibfhklnfaa
open Go.RowKit Go.Fb
set_option maxRecDepth 100000 in
theorem rhas_any (v : Int) (A : Option Addr) (c B n : Nat) (l : List Int) (w : World) (hn : n = l.length) (hm : n ≤ 1000000) (hr : Reads w B 1 A n (l.map (Value.int .i64))) :
    Calls Try.prog 31 #[.slice A n c, .int .i64 v] w fun e w' => e = .returned (.bool (hasI l v)) ∧ w = w' := by
  have HR := Lib.hid hr
  have HN := Lib.hid hn
  clear hr hn
  go_enter Try.func31, Try.ntmps31
  go_wp2_with fail
  go_loop [5] (fun s => ∃ k : Nat, k ≤ n ∧ s = .int .i64 k ∧ RowKit.Hid (∀ x ∈ l.take k, x ≠ v)) (fun s => n - (intOf s).toNat)
  case atStart => exact ⟨0, Nat.zero_le _, rfl, Lib.hid (by simp)⟩
  case round =>
    obtain ⟨k, hk, rfl, HB⟩ := hrel
    by_cases hkn : k < n
    · have hki : (k : Int) < (n : Int) := by omega
      have hk0 : (0 : Int) ≤ (k : Int) := by omega
      obtain ⟨b, off, u, rfl, hb, hu, hc⟩ := HR.out.one hkn
      obtain ⟨x, hx⟩ : ∃ x, l[k]? = some x := ⟨_, List.getElem?_eq_getElem (by rw [← HN.out]; exact hkn)⟩
      rw [List.getElem?_map, hx] at hu
      simp at hu
      subst hu
      have HX := Lib.hid hx
      clear hx
      by_cases e : x = v
      · have hv : hasI l v = true := hasI_iff.2 (e ▸ List.mem_of_getElem? HX.out)
        have HV := Lib.hid hv
        have he : (x == v) = true := by simpa using e
        clear hv e
        go_wp2_with fail
        go_ret
        exact ⟨by rw [HV.out]; rfl, rfl⟩
      · have he : (x == v) = false := by simpa using e
        have HB2 := Lib.hid (show ∀ y ∈ l.take (k + 1), y ≠ v from fun y hy => by
          rw [List.take_add_one, HX.out] at hy
          rcases List.mem_append.1 hy with hy | hy
          · exact HB.out y hy
          · simp at hy; rw [hy]; exact e)
        clear e
        go_wp2_with fail
        go_round
        case rel => exact ⟨k + 1, by omega, by go_num, HB2⟩
        case measure => simp [intOf]; omega
    · obtain rfl : k = n := by omega
      have hv : hasI l v = false := by
        have htk : l.take k = l := List.take_of_length_le (by rw [HN.out]; exact Nat.le_refl _)
        have h := HB.out
        rw [htk] at h
        cases hh : hasI l v with
        | false => rfl
        | true => exact absurd rfl (h v (hasI_iff.1 hh))
      have HV := Lib.hid hv
      clear hv
      go_wp2_with fail
      go_ret
      exact ⟨by rw [HV.out]; rfl, rfl⟩
set_option maxRecDepth 100000 in
set_option maxHeartbeats 1000000 in
theorem rints_any (A A2 : Option Addr) (c c2 B n n2 : Nat) (l l2 : List Int) (w : World) (hn : n = l.length) (hn2 : n2 = l2.length) (hm : n ≤ 1000000) (hm2 : n2 ≤ 1000000) (hr : Reads w B 1 A n (l.map (Value.int .i64))) (hr2 : Reads w B 1 A2 n2 (l2.map (Value.int .i64))) :
    Calls Try.prog 18 #[.slice A n c, .slice A2 n2 c2] w fun e w' => e = .returned (.bool (decide (l = l2))) ∧ Fr w.heap.size [] w w' := by
  have HR := Lib.hid hr
  have HR2 := Lib.hid hr2
  have HN := Lib.hid hn
  have HN2 := Lib.hid hn2
  obtain ⟨vb, hvb⟩ : ∃ b, b = decide (l = l2) := ⟨_, rfl⟩
  rw [← hvb]
  have HV := Lib.hid hvb
  clear hr hn hr2 hn2 hvb
  by_cases hne : n = n2
  · subst hne
    go_enter Try.func18, Try.ntmps18
    go_wp2_with fail
    go_loopw [5] (fun s wr => ∃ k : Nat, k ≤ n ∧ s = .int .i64 k ∧ RowKit.Hid (∀ j, j < k → l[j]? = l2[j]?) ∧ RowKit.Hid (Fr w.heap.size [] w wr) ∧ RowKit.Hid (∃ d, wr = w.drewN d)) (fun s _ => n - (intOf s).toNat)
    case atStart => exact ⟨0, Nat.zero_le _, rfl, Lib.hid (fun j h => absurd h (Nat.not_lt_zero _)), Lib.hid (Fr.refl _ _ _), Lib.hid ⟨0, rfl⟩⟩
    case round =>
      obtain ⟨k, hk, rfl, HB, HF, HD⟩ := hrel
      by_cases hkn : k < n
      · have hki : (k : Int) < (n : Int) := by omega
        have hk0 : (0 : Int) ≤ (k : Int) := by omega
        obtain ⟨b, off, u, rfl, hb, hu, hc⟩ := HR.out.one hkn
        obtain ⟨b2, off2, u2, rfl, hb2, hu2, hc2⟩ := HR2.out.one hkn
        obtain ⟨x, hx⟩ : ∃ x, l[k]? = some x := ⟨_, List.getElem?_eq_getElem (by rw [← HN.out]; exact hkn)⟩
        obtain ⟨y, hy⟩ : ∃ x, l2[k]? = some x := ⟨_, List.getElem?_eq_getElem (by rw [← HN2.out]; exact hkn)⟩
        rw [List.getElem?_map, hx] at hu
        rw [List.getElem?_map, hy] at hu2
        simp at hu hu2
        subst hu
        subst hu2
        have hc : wr.cell? ⟨b, off + k, none⟩ = some (.int .i64 x) := by obtain ⟨d, hd⟩ := HD.out; rw [hd]; exact hc
        have hc2 : wr.cell? ⟨b2, off2 + k, none⟩ = some (.int .i64 y) := by obtain ⟨d, hd⟩ := HD.out; rw [hd]; exact hc2
        have HX := Lib.hid hx
        have HY := Lib.hid hy
        clear hx hy
        by_cases e : x = y
        · have he : (x != y) = false := by simpa using e
          have HB2 := Lib.hid (show ∀ j, j < k + 1 → l[j]? = l2[j]? from fun j hj => by
            by_cases e2 : j = k
            · subst e2; rw [HX.out, HY.out, e]
            · exact HB.out j (by omega))
          clear e
          go_wp2_with fail
          go_quiet (fail)
          go_wp2_with fail
          go_roundw
          case rel => exact ⟨k + 1, by omega, by go_num, HB2, Lib.hid (HF.out.drewN _), Lib.hid (by obtain ⟨d, hd⟩ := HD.out; rw [hd]; exact ⟨_, World.drewN_drewN _ _ _⟩)⟩
          case measure => simp [intOf]; omega
        · have he : (x != y) = true := by simpa using e
          have hv : vb = false := by
            rw [HV.out]
            refine decide_eq_false fun h => e ?_
            have := HX.out
            rw [h, HY.out] at this
            injection this with this
            exact this.symm
          have H := Lib.hid hv
          clear hv e
          go_wp2_with fail
          go_quiet (fail)
          go_wp2_with fail
          go_ret
          exact ⟨by rw [H.out]; rfl, HF.out.drewN _⟩
      · obtain rfl : k = n := by omega
        have hv : vb = true := by
          rw [HV.out]
          refine decide_eq_true (List.ext_getElem? fun j => ?_)
          by_cases hj : j < k
          · exact HB.out j hj
          · rw [List.getElem?_eq_none (by rw [← HN.out]; omega), List.getElem?_eq_none (by rw [← HN2.out]; omega)]
        have H := Lib.hid hv
        clear hv
        go_wp2_with fail
        go_ret
        exact ⟨by rw [H.out]; rfl, HF.out⟩
  · have hv : vb = false := by
      rw [HV.out]
      refine decide_eq_false fun h => hne ?_
      rw [HN.out, HN2.out, h]
    have H := Lib.hid hv
    have he : ((n : Int) != (n2 : Int)) = true := by simp; omega
    clear hv
    go_enter Try.func18, Try.ntmps18
    go_wp2_with fail
    go_ret
    exact ⟨by rw [H.out]; rfl, Fr.refl _ _ _⟩
/-- The place of the first node of a number; -1: none. -/
def ixN (L : List Nd) (id : Int) : Int := match L.findIdx? (fun x => decide (x.id = id)) with
  | none => -1
  | some k => (k : Int)
theorem findIdx_at : ∀ {L : List Nd} {id : Int} {k : Nat} {x : Nd}, L[k]? = some x → x.id = id → (∀ y ∈ L.take k, y.id ≠ id) → L.findIdx? (fun x => decide (x.id = id)) = some k
  | [], _, _, _, h, _, _ => by simp at h
  | y :: L, id, 0, x, h, e, _ => by
    simp at h
    subst h
    rw [List.findIdx?_cons]
    simp [e]
  | y :: L, id, k + 1, x, h, e, hb => by
    have h0 := hb y (by simp)
    rw [List.findIdx?_cons]
    have ih := findIdx_at (L := L) (id := id) (k := k) (by simpa using h) e fun z hz => hb z (by simp [hz])
    simp [h0, ih]
theorem ixN_cases (L : List Nd) (id : Int) : (ixN L id = -1 ∧ findN L id = none) ∨ ∃ (k : Nat) (x : Nd), ixN L id = k ∧ L[k]? = some x ∧ findN L id = some x := by
  unfold ixN findN
  induction L with
  | nil => left; simp
  | cons y L ih =>
    rw [List.findIdx?_cons, List.find?_cons]
    by_cases e : y.id = id
    · right; exact ⟨0, y, by simp [e], rfl, by simp [e]⟩
    · simp only [e, decide_false, Bool.false_eq_true, if_false]
      rcases ih with ⟨h1, h2⟩ | ⟨k, x, h1, h2, h3⟩
      · left
        refine ⟨?_, h2⟩
        cases hf : L.findIdx? (fun x => decide (x.id = id)) with
        | none => rfl
        | some k => rw [hf] at h1; simp only at h1; omega
      · right
        refine ⟨k + 1, x, ?_, by simpa using h2, h3⟩
        cases hf : L.findIdx? (fun x => decide (x.id = id)) with
        | none => rw [hf] at h1; simp only at h1; omega
        | some k' => rw [hf] at h1; simp only at h1; simp; omega
theorem ixN_none {L : List Nd} {id : Int} (h : ∀ y ∈ L, y.id ≠ id) : ixN L id = -1 := by
  unfold ixN
  rw [List.findIdx?_eq_none_iff.2 (fun x hx => by simpa using h x hx)]
theorem ixN_at {L : List Nd} {id : Int} {k : Nat} {x : Nd} (h : L[k]? = some x) (e : x.id = id) (hb : ∀ y ∈ L.take k, y.id ≠ id) : ixN L id = k := by
  unfold ixN
  rw [findIdx_at h e hb]
theorem fst_take {M : List Ndm} {k : Nat} {m : Ndm} (h : M[k]? = some m) : (fstN M).take (k + 1) = (fstN M).take k ++ [m.1] := by
  rw [List.take_add_one]; simp [fstN, h]
set_option maxRecDepth 100000 in
set_option maxHeartbeats 1000000 in
theorem rfind_any (id : Int) (A : Option Addr) (c B n : Nat) (M : List Ndm) (w : World) (h : Nds w B A n M) (hm : n ≤ 1000000) :
    Calls Try.prog 26 #[.slice A n c, .int .i64 id] w fun e w' => e = .returned (.int .i64 (ixN (fstN M) id)) ∧ w = w' := by
  have H := Lib.hid h
  have HN := Lib.hid h.num
  obtain ⟨L, hL⟩ : ∃ L, L = fstN M := ⟨_, rfl⟩
  have HL := Lib.hid hL
  obtain ⟨v, hv⟩ : ∃ v, v = ixN L id := ⟨_, rfl⟩
  have HV := Lib.hid hv
  rw [← hL, ← hv]
  clear h hL hv
  go_enter Try.func26, Try.ntmps26
  go_wp2_with fail
  go_loop [5] (fun s => ∃ k : Nat, k ≤ n ∧ s = .int .i64 k ∧ RowKit.Hid (∀ x ∈ L.take k, x.id ≠ id)) (fun s => n - (intOf s).toNat)
  case atStart => exact ⟨0, Nat.zero_le _, rfl, Lib.hid (by simp)⟩
  case round =>
    obtain ⟨k, hk, rfl, HB⟩ := hrel
    by_cases hkn : k < n
    · have hki : (k : Int) < (n : Int) := by omega
      have hk0 : (0 : Int) ≤ (k : Int) := by omega
      obtain ⟨m, hx⟩ : ∃ m, M[k]? = some m := ⟨_, List.getElem?_eq_getElem (by rw [← HN.out]; exact hkn)⟩
      obtain ⟨b1, o1, rfl, hb1, hc1⟩ := H.out.get hx
      have p0 := hc1 0 _ (ndL_get m).1
      simp only [Nat.add_zero] at p0
      have HX := Lib.hid (show L[k]? = some m.1 by rw [HL.out]; simp [fstN, hx])
      have HTK := Lib.hid (show L.take (k + 1) = L.take k ++ [m.1] by rw [HL.out]; exact fst_take hx)
      obtain ⟨x, sf, sp⟩ := m
      simp only at p0 HX HTK
      obtain ⟨i, hi⟩ : ∃ i, i = x.id := ⟨_, rfl⟩
      rw [← hi] at p0
      have HI := Lib.hid hi
      clear hc1 hx hi
      by_cases e : i = id
      · have hv : v = k := by rw [HV.out]; exact ixN_at HX.out (by rw [← HI.out]; exact e) HB.out
        have HVV := Lib.hid hv
        have he : (i == id) = true := by simpa using e
        clear hv e
        go_wp2_with fail
        go_ret
        exact ⟨by rw [HVV.out]; rfl, rfl⟩
      · have he : (i == id) = false := by simpa using e
        have HB2 := Lib.hid (show ∀ y ∈ L.take (k + 1), y.id ≠ id from fun y hy => by
          rw [HTK.out] at hy
          rcases List.mem_append.1 hy with hy | hy
          · exact HB.out y hy
          · simp at hy; rw [hy, ← HI.out]; exact e)
        clear e
        go_wp2_with fail
        go_round
        case rel => exact ⟨k + 1, by omega, by go_num, HB2⟩
        case measure => simp [intOf]; omega
    · obtain rfl : k = n := by omega
      have hv : v = -1 := by
        have htk : L.take k = L := List.take_of_length_le (by rw [HL.out, HN.out]; simp [fstN])
        have h := HB.out
        rw [htk] at h
        rw [HV.out]
        exact ixN_none h
      have HVV := Lib.hid hv
      clear hv
      go_wp2_with fail
      go_ret
      exact ⟨by rw [HVV.out]; rfl, rfl⟩
end Go.Proofs.Ytddngibfhklnfaa
