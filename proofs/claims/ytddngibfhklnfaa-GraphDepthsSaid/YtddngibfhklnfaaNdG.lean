/- The contracts of slices.Contains on numbers, and of graph.Children. -/
import Derived.Test.YtddngibfhklnfaaNdB
namespace Go.Proofs.Ytddngibfhklnfaa
open Go.RowKit Go.Fb
/-- Does a list have a number? -/
def hasI (l : List Int) (v : Int) : Bool := l.any fun x => decide (x = v)
theorem hasI_iff {l : List Int} {v : Int} : hasI l v = true ↔ v ∈ l := by
  unfold hasI
  rw [List.any_eq_true]
  constructor
  · rintro ⟨x, hx, h⟩
    have : x = v := by simpa using h
    exact this ▸ hx
  · exact fun h => ⟨v, h, by simp⟩
set_option maxRecDepth 100000 in
theorem iidx_any (v : Int) (A : Option Addr) (c B n : Nat) (l : List Int) (w : World) (hn : n = l.length) (hm : n ≤ 1000000) (hr : Reads w B 1 A n (l.map (Value.int .i64))) (hB : B ≤ w.heap.size) :
    Calls Try.prog 82 #[.slice A n c, .int .i64 v] w fun e w' => ∃ i : Int, e = .returned (.int .i64 i) ∧ decide (0 ≤ i) = hasI l v ∧ Fr w.heap.size [] w w' := by
  have HR := Lib.hid hr
  have HN := Lib.hid hn
  clear hr hn
  go_enter Try.func82, Try.ntmps82
  go_wp2_with fail
  go_loopg [8] n (fun g s8 wr => ∃ k : Nat, k ≤ n ∧ g = n - k ∧ s8 = .int .i64 k ∧ RowKit.Hid (∀ j y, j < k → l[j]? = some y → y ≠ v) ∧ RowKit.Hid (Fr w.heap.size [] w wr))
  case atStart => exact ⟨0, Nat.zero_le _, rfl, rfl, Lib.hid (fun j y h => absurd h (by omega)), Lib.hid (Fr.refl _ _ _)⟩
  case round =>
    obtain ⟨k, hk, rfl, rfl, HP, FR⟩ := hrel
    by_cases hkn : k < n
    · have hki : (k : Int) < (n : Int) := by omega
      have hk0 : (0 : Int) ≤ (k : Int) := by omega
      obtain ⟨x, hx⟩ : ∃ x, l[k]? = some x := ⟨_, List.getElem?_eq_getElem (by rw [← HN.out]; exact hkn)⟩
      obtain ⟨b1, o1, u, rfl, hb1, hu, q1⟩ := (HR.out.fr FR.out hB (by simp)).one hkn
      rw [List.getElem?_map, hx] at hu
      injection hu with hu
      subst hu
      have HX := Lib.hid hx
      clear hx
      by_cases hv : x = v
      · subst hv
        go_wp2_with fail
        go_ret
        refine ⟨k, rfl, ?_, FR.out⟩
        rw [decide_eq_true hk0]
        exact (hasI_iff.2 (List.mem_of_getElem? HX.out)).symm
      · have hd : decide (v = x) = false := decide_eq_false (fun e => hv e.symm)
        have hd2 : (v == x) = false := by simpa using fun e => hv e.symm
        go_wp2_with fail
        go_roundg (n - (k + 1))
        case measure => omega
        case rel =>
          refine ⟨k + 1, by omega, rfl, by go_num, Lib.hid fun j y hj hy => ?_, FR⟩
          rcases Nat.lt_or_ge j k with h | h
          · exact HP.out j y h hy
          · have : j = k := by omega
            subst this
            rw [HX.out] at hy
            injection hy with hy
            rw [← hy]
            exact hv
    · obtain rfl : k = n := by omega
      go_wp2_with fail
      go_ret
      refine ⟨-1, rfl, ?_, FR.out⟩
      symm
      rw [show decide ((0 : Int) ≤ -1) = false from rfl]
      cases hh : hasI l v with
      | false => rfl
      | true =>
        obtain ⟨j, hj, he⟩ := List.mem_iff_getElem.1 (hasI_iff.1 hh)
        exact absurd he (HP.out j _ (by rw [HN.out]; exact hj) (List.getElem?_eq_getElem hj))
set_option maxRecDepth 100000 in
theorem ihas_any (v : Int) (A : Option Addr) (c B n : Nat) (l : List Int) (w : World) (hn : n = l.length) (hm : n ≤ 1000000) (hr : Reads w B 1 A n (l.map (Value.int .i64))) (hB : B ≤ w.heap.size) :
    Calls Try.prog 49 #[.slice A n c, .int .i64 v] w fun e w' => e = .returned (.bool (hasI l v)) ∧ Fr w.heap.size [] w w' := by
  have H := Lib.hid (iidx_any v A c B n l w hn hm hr hB)
  obtain ⟨b, hb⟩ : ∃ b, b = hasI l v := ⟨_, rfl⟩
  rw [← hb] at H ⊢
  clear hn hr hb
  go_enter Try.func49, Try.ntmps49
  go_wp2_with fail
  refine H.out.mono ?_
  rintro e w1 ⟨i, rfl, hi, f1⟩
  have F1 := Lib.hid f1
  have HI := Lib.hid hi
  clear hi f1 H
  go_wp2_with fail
  go_ret
  exact ⟨by rw [← HI.out]; rfl, F1.out⟩
/-- A node's children, as they stand. -/
def kidsN : List Nd → Int → List Int → List Int
  | [], _, out => out
  | x :: L, id, out => kidsN L id (if hasI x.fr id && !hasI out x.id then out ++ [x.id] else out)
theorem kidsN_snoc : ∀ (L : List Nd) (x : Nd) (id : Int) (out : List Int), kidsN (L ++ [x]) id out = (if hasI x.fr id && !hasI (kidsN L id out) x.id then kidsN L id out ++ [x.id] else kidsN L id out)
  | [], _, _, _ => rfl
  | y :: L, x, id, out => by
    show kidsN (L ++ [x]) id _ = _
    rw [kidsN_snoc L x id]
    rfl
theorem kidsN_le : ∀ (L : List Nd) (id : Int) (out : List Int), (kidsN L id out).length ≤ out.length + L.length
  | [], _, _ => Nat.le_refl _
  | y :: L, id, out => by
    have hle : (if hasI y.fr id && !hasI out y.id then out ++ [y.id] else out).length ≤ out.length + 1 := by split <;> simp
    have h := kidsN_le L id (if hasI y.fr id && !hasI out y.id then out ++ [y.id] else out)
    show (kidsN L id (if hasI y.fr id && !hasI out y.id then out ++ [y.id] else out)).length ≤ out.length + (L.length + 1)
    omega
/-- A node's children. -/
def childN (L : List Nd) (id : Int) : List Int := srt (kidsN L id [])
def IntsOut (l : List Int) (w : World) (e : Ending) (w' : World) : Prop :=
  ∃ A c k, k = l.length ∧ e = .returned (.slice A k c) ∧ w'.ownsRow w.heap.size 3 1 (.slice A k c) k (l.map (Value.int .i64)) ∧ Fr w.heap.size [] w w'
theorem take_snocN {M : List Ndm} {k : Nat} {m : Ndm} (h : M[k]? = some m) : (M.take (k + 1)).map (·.1) = (M.take k).map (·.1) ++ [m.1] := by rw [List.take_add_one, h]; simp
set_option maxRecDepth 100000 in
set_option maxHeartbeats 4000000 in
theorem children_any (id : Int) (A : Option Addr) (c B n : Nat) (M : List Ndm) (w : World) (h : Nds w B A n M) (hB : B ≤ w.heap.size) (hs : M.length ≤ 1000000 ∧ ∀ m ∈ M, m.1.fr.length ≤ 1000000 ∧ m.1.pg.length ≤ 1000000) :
    Calls Try.prog 21 #[.slice A n c, .int .i64 id] w (IntsOut (childN (M.map (·.1)) id) w) := by
  have H := Lib.hid h
  have HN := Lib.hid h.num
  have HS := Lib.hid hs
  have hn : n ≤ 1000000 := by rw [h.num]; exact hs.1
  clear h hs
  go_enter Try.func21, Try.ntmps21
  go_wp2_with fail
  go_loopg [5, 10] n (fun g s5 s10 wr => ∃ (k q : Nat) (A' : Option Addr) (c' : Nat), k ≤ n ∧ g = n - k ∧ s10 = .int .i64 k ∧ s5 = .slice A' q c' ∧ q ≤ k ∧ RowKit.Hid (q = (kidsN ((M.take k).map (·.1)) id []).length) ∧ RowKit.Hid (wr.ownsRow w.heap.size 3 1 (.slice A' q c') q ((kidsN ((M.take k).map (·.1)) id []).map (Value.int .i64))) ∧ RowKit.Hid (Fr w.heap.size [] w wr))
  case atStart => exact ⟨0, 0, none, 0, Nat.zero_le _, rfl, rfl, rfl, Nat.le_refl _, Lib.hid rfl, Lib.hid (World.ownsRow_nil _ _ _ _), Lib.hid (Fr.refl _ _ _)⟩
  case round =>
    obtain ⟨k, q, A', c', hk, rfl, rfl, rfl, hqk, HQ, HO, FR⟩ := hrel
    by_cases hkn : k < n
    · have hki : (k : Int) < (n : Int) := by omega
      have hk0 : (0 : Int) ≤ (k : Int) := by omega
      obtain ⟨m, hx⟩ : ∃ m, M[k]? = some m := ⟨_, List.getElem?_eq_getElem (by rw [← HN.out]; exact hkn)⟩
      have HND := H.out.frw FR.out hB (by simp)
      obtain ⟨b1, o1, rfl, hb1, hc1⟩ := HND.get hx
      have hin := HND.inn m (List.mem_of_getElem? hx)
      have hsm := HS.out.2 m (List.mem_of_getElem? hx)
      have HTK := take_snocN hx
      obtain ⟨x, sf, sp⟩ := m
      obtain ⟨⟨Af, cf, hf1, hf2⟩, ⟨Ap, cp, hp1, _⟩⟩ := hin
      simp only at hf1 hf2 hp1 hsm HTK
      subst hf1
      subst hp1
      obtain ⟨nf, hnf⟩ : ∃ z, z = x.fr.length := ⟨_, rfl⟩
      obtain ⟨np, hnp⟩ : ∃ z, z = x.pg.length := ⟨_, rfl⟩
      obtain ⟨g0, g1, g2, g3, g4, g5, g6, g7, g8, g9, g10, g11, g12⟩ := ndL_get (x, .slice Af x.fr.length cf, .slice Ap x.pg.length cp)
      have p0 := hc1 0 _ g0
      have p1 := hc1 1 _ g1
      have p2 := hc1 2 _ g2
      have p3 := hc1 3 _ g3
      have p4 := hc1 4 _ g4
      have p5 := hc1 5 _ g5
      have p6 := hc1 6 _ g6
      have p7 := hc1 7 _ g7
      have p8 := hc1 8 _ g8
      have p9 := hc1 9 _ g9
      have p10 := hc1 10 _ g10
      have p11 := hc1 11 _ g11
      have p12 := hc1 12 _ g12
      simp only [Nat.add_zero] at p0
      simp only [← hnf, ← hnp] at p2 p3
      obtain ⟨out, hout⟩ : ∃ o, o = kidsN ((M.take k).map (·.1)) id [] := ⟨_, rfl⟩
      rw [← hout] at HQ HO
      have HKS := kidsN_snoc ((M.take k).map (·.1)) x id []
      rw [← HTK, ← hout] at HKS
      have RF := Lib.hid hf2
      have HNF := Lib.hid hnf
      have hnf1 : nf ≤ 1000000 := by rw [hnf]; exact hsm.1
      clear hc1 hx g0 g1 g2 g3 g4 g5 g6 g7 g8 g9 g10 g11 g12 HND hsm HTK hf2 hout hnf hnp
      go_upto_region 5 with fail
      have BX := Lib.hid (Blk.new wr 38 (ndA x (.slice Af nf cf) (.slice Ap np cp)))
      have fa := (Fr.refl wr.heap.size [] wr).alloc (Nat.le_refl _) (.cells (ndA x (.slice Af nf cf) (.slice Ap np cp)) 38)
      have HOa := Lib.hid (ownsRow_fr HO.out fa (fun q hq => ⟨(HO.out.lt q hq).2, by simp⟩))
      have FRa := Lib.hid (FR.out.trans (fa.mono (B' := w.heap.size) (L' := []) FR.out.size (by simp)))
      have hBr : B ≤ wr.heap.size := Nat.le_trans hB FR.out.size
      have HC1 := ihas_any id Af cf B nf x.fr _ HNF.out hnf1 (by have := RF.out.fr fa hBr (by simp); rw [← HNF.out] at this; exact this) (Nat.le_trans hBr fa.size)
      obtain ⟨h1, hh1⟩ : ∃ b, b = hasI x.fr id := ⟨_, rfl⟩
      rw [← hh1] at HC1 HKS
      have HC1 := Lib.hid HC1
      clear fa HO FR p0 p1 p2 p3 p4 p5 p6 p7 p8 p9 p10 p11 p12 hb1 hh1
      generalize wr.alloc (.cells (ndA x (.slice Af nf cf) (.slice Ap np cp)) 38) = wa at *
      generalize wr.heap.size = gx at *
      have q0 := BX.out.cell 0
      have q2 := BX.out.cell 2
      simp at q0 q2
      cases h1 with
      | false =>
        rw [Bool.false_and, if_neg (by simp)] at HKS
        have HKS := Lib.hid HKS
        go_wp2_with fail
        refine HC1.out.mono ?_
        rintro e w2 ⟨rfl, f2⟩
        have HO2 := Lib.hid (ownsRow_fr HOa.out f2 (fun q hq => ⟨(HOa.out.lt q hq).2, by simp⟩))
        have F2 := Lib.hid (FRa.out.trans (f2.mono (B' := w.heap.size) (L' := []) FRa.out.size (by simp)))
        clear f2 HC1
        go_wp2_with fail
        go_roundg (n - (k + 1))
        case measure => omega
        case rel => exact ⟨k + 1, q, A', c', by omega, rfl, by go_num, rfl, by omega, by rw [HKS.out]; exact HQ, by rw [HKS.out]; exact HO2, F2⟩
      | true =>
        rw [Bool.true_and] at HKS
        go_wp2_with fail
        refine HC1.out.mono ?_
        rintro e w2 ⟨rfl, f2⟩
        have HO2 := Lib.hid (ownsRow_fr HOa.out f2 (fun q hq => ⟨(HOa.out.lt q hq).2, by simp⟩))
        have F2 := Lib.hid (FRa.out.trans (f2.mono (B' := w.heap.size) (L' := []) FRa.out.size (by simp)))
        have BX2 := Lib.hid (BX.out.fr f2 BX.out.lt (by simp))
        have q0b := BX2.out.cell 0
        simp at q0b
        have HC2 := ihas_any x.id A' c' w2.heap.size q out w2 HQ.out (by omega) (Reads.of_own HO2.out) (Nat.le_refl _)
        obtain ⟨h2, hh2⟩ : ∃ b, b = hasI out x.id := ⟨_, rfl⟩
        rw [← hh2] at HC2 HKS
        have HC2 := Lib.hid HC2
        clear f2 HC1 hh2 q0 q2
        cases h2 with
        | true =>
          rw [if_neg (by simp)] at HKS
          have HKS := Lib.hid HKS
          go_wp2_with fail
          refine HC2.out.mono ?_
          rintro e w3 ⟨rfl, f3⟩
          have HO3 := Lib.hid (ownsRow_fr HO2.out f3 (fun q hq => ⟨(HO2.out.lt q hq).2, by simp⟩))
          have F3 := Lib.hid (F2.out.trans (f3.mono (B' := w.heap.size) (L' := []) F2.out.size (by simp)))
          clear f3 HC2
          go_wp2_with fail
          go_roundg (n - (k + 1))
          case measure => omega
          case rel => exact ⟨k + 1, q, A', c', by omega, rfl, by go_num, rfl, by omega, by rw [HKS.out]; exact HQ, by rw [HKS.out]; exact HO3, F3⟩
        | false =>
          rw [if_pos (by simp)] at HKS
          have HKS := Lib.hid HKS
          go_wp2_with fail
          refine HC2.out.mono ?_
          rintro e w3 ⟨rfl, f3⟩
          have HO3 := Lib.hid (ownsRow_fr HO2.out f3 (fun q hq => ⟨(HO2.out.lt q hq).2, by simp⟩))
          have F3 := Lib.hid (F2.out.trans (f3.mono (B' := w.heap.size) (L' := []) F2.out.size (by simp)))
          have BX3 := Lib.hid (BX2.out.fr f3 BX2.out.lt (by simp))
          have q0c := BX3.out.cell 0
          simp at q0c
          have hown := HO3.out
          have hsz := F3.out.size
          clear f3 HC2 q0b
          go_wp2_with (at_builtin; refine wpList_app_lit _ rfl (.tmp 25) (.tmp 28) intsTy rfl w.heap.size (.slice A' q c') q _ rfl hown 1 1 _ rfl rfl (by simp [Value.oneCell']) (by omega) (by omega) hsz ?_; intro A3 c3 w4 hown4 hg4 hat4)
          have F4 := Lib.hid (F3.out.trans (Fr.of_app hg4 hown hsz))
          have HO4 := Lib.hid hown4
          clear hown4 hg4 hat4 hown
          go_roundg (n - (k + 1))
          case measure => omega
          case rel => exact ⟨k + 1, q + 1, A3, c3, by omega, rfl, by go_num, rfl, by omega, by rw [HKS.out, List.length_append, ← HQ.out]; exact Lib.hid rfl, by rw [HKS.out, List.map_append]; exact HO4, F4⟩
    · obtain rfl : k = n := by omega
      have htk : M.take k = M := List.take_of_length_le (by rw [HN.out]; exact Nat.le_refl _)
      rw [htk] at HQ HO
      obtain ⟨zs, hzs⟩ : ∃ zs, zs = kidsN (M.map (·.1)) id [] := ⟨_, rfl⟩
      rw [← hzs] at HQ HO
      have HCH := Lib.hid (show childN (M.map (·.1)) id = srt zs by rw [hzs]; rfl)
      clear htk hzs
      rcases Nat.eq_zero_or_pos q with h0 | h0
      · subst h0
        have hz0 : zs = [] := List.eq_nil_of_length_eq_zero HQ.out.symm
        have hs0 : srt zs = [] := by rw [hz0]; simp [srt]
        rw [hs0] at HCH
        have HSS := Lib.hid (Any.slices_Sort_int_none Try.sortI A' c' wr)
        have hown := HO.out
        rw [hz0] at hown
        have HO0 := Lib.hid hown
        clear hz0 hs0 hown HO
        go_wp2_with fail
        refine HSS.out.mono ?_
        rintro e w' ⟨rfl, rfl⟩
        go_wp2_with fail
        go_ret
        unfold IntsOut
        rw [HCH.out]
        exact ⟨A', c', 0, rfl, rfl, HO0.out, FR.out⟩
      · obtain ⟨g, cap, hv, hbg, hlt⟩ := HO.out.form h0
        injection hv with hv1 hv2 hv3
        subst hv1
        subst hv3
        have HSS := Lib.hid (sorti_any wr w.heap.size g c' q zs HQ.out HO.out (by omega))
        clear HO hv2
        go_wp2_with fail
        refine HSS.out.mono ?_
        rintro e wa ⟨rfl, hown, fa⟩
        have FA := Lib.hid (FR.out.trans (fa.mono (B' := w.heap.size) (L' := []) FR.out.size (by intro q hq hlt; simp at hq; omega)))
        have HO2 := Lib.hid hown
        clear hown fa HSS
        go_wp2_with fail
        go_ret
        unfold IntsOut
        rw [HCH.out]
        exact ⟨_, c', q, by rw [srt_len]; exact HQ.out, rfl, HO2.out, FA.out⟩
end Go.Proofs.Ytddngibfhklnfaa
