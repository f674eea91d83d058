/- Texts merged into one, for the number of files a claim may have: NdL, NdM, RfA, RfB, GrS, RfC, GrU, GPass, GAwake. -/
import Derived.Test.YtfakgidimekikaaGreatMNdK
import Derived.Test.YtfakgidimekikaaGreatMD
namespace Go.Proofs.YtfakgidimekikaaGreat
open Go.RowKit Go.Fb
theorem checkN_bad {L : List Nd} (h8 : L.length ≤ 8) {x : Nd} (hx : x ∈ L) (hb : nodeB L x = false) : checkN L = 10 := by
  unfold checkN
  rw [if_neg (by omega), if_neg]
  intro h
  rw [Bool.and_eq_true, List.all_eq_true] at h
  have := h.1 x hx
  rw [hb] at this
  cases this
theorem checkN_good {L : List Nd} (h8 : L.length ≤ 8) (ha : ∀ x ∈ L, nodeB L x = true) : checkN L = if unlikeB (idsN L) && (hasI (idsN L) 0 && decide ((sortN L).length = L.length)) then 0 else 10 := by
  unfold checkN
  have : L.all (nodeB L) = true := List.all_eq_true.2 ha
  rw [if_neg (by omega), this, Bool.true_and]
set_option maxRecDepth 100000 in
set_option maxHeartbeats 4000000 in
theorem gcheck_any (A : Option Addr) (c B n : Nat) (M : List Ndm) (w : World) (h : Nds w B A n M) (hB : B ≤ w.heap.size) (hs : Small M) :
    Calls Tryz.prog 40 #[.slice A n c] w fun e w' => e = .returned (.int .i64 (checkN (fstN M))) ∧ Fr w.heap.size [] w w' := by
  obtain ⟨L, hL⟩ : ∃ L, L = fstN M := ⟨_, rfl⟩
  have hnl : L.length = n := by rw [hL, h.num]; simp [fstN]
  obtain ⟨cv, hcv⟩ : ∃ v, v = checkN L := ⟨_, rfl⟩
  rw [← hL, ← hcv]
  have HCV := Lib.hid hcv
  have HL := Lib.hid hL
  have HNL := Lib.hid hnl
  have H := Lib.hid h
  have HN := Lib.hid h.num
  have HS := Lib.hid hs
  clear h hs hL hnl hcv
  by_cases h8 : 8 < n
  · have hn1 : n ≤ 1000000 := by rw [HN.out]; exact HS.out.1
    have hv : cv = 6 := by rw [HCV.out]; exact checkN_long.2 (by rw [HNL.out]; exact h8)
    have HV := Lib.hid hv
    clear hv
    go_enter Tryz.func40, Tryz.ntmps40
    go_wp2_with fail
    go_ret
    exact ⟨by rw [HV.out]; rfl, Fr.refl _ _ _⟩
  have hn8 : n ≤ 8 := by omega
  go_enter Tryz.func40, Tryz.ntmps40
  go_wp2_with fail
  go_loopg [3, 11] n (fun g s3 s11 wr => ∃ (k : Nat) (A' : Option Addr) (c' : Nat), k ≤ n ∧ g = n - k ∧ s11 = .int .i64 k ∧ s3 = .slice A' k c' ∧ RowKit.Hid (∀ x ∈ L.take k, nodeB L x = true) ∧ RowKit.Hid (wr.ownsRow w.heap.size 3 1 (.slice A' k c') k ((idsN (L.take k)).map (Value.int .i64))) ∧ RowKit.Hid (Fr w.heap.size [] w wr))
  case atStart => exact ⟨0, none, 0, Nat.zero_le _, rfl, rfl, rfl, Lib.hid (by simp), Lib.hid (World.ownsRow_nil _ _ _ _), Lib.hid (Fr.refl _ _ _)⟩
  case round =>
    obtain ⟨k, A', c', hk, rfl, rfl, rfl, HG, HO, FR⟩ := hrel
    by_cases hkn : k < n
    · have hki : (k : Int) < (n : Int) := by omega
      have hk0 : (0 : Int) ≤ (k : Int) := by omega
      obtain ⟨m, hx⟩ : ∃ m, M[k]? = some m := ⟨_, List.getElem?_eq_getElem (by rw [← HN.out]; exact hkn)⟩
      have HND := H.out.frw FR.out hB (by simp)
      obtain ⟨b1, o1, rfl, hb1, hc1⟩ := HND.get hx
      have hin := HND.inn m (List.mem_of_getElem? hx)
      have hsm := HS.out.2 m (List.mem_of_getElem? hx)
      have HTK := Lib.hid (show L.take (k + 1) = L.take k ++ [m.1] by rw [List.take_add_one, HL.out]; simp [fstN, hx])
      have HMEM := Lib.hid (show m.1 ∈ L by rw [HL.out]; exact List.mem_map.2 ⟨m, List.mem_of_getElem? hx, rfl⟩)
      obtain ⟨x, sf, sp⟩ := m
      have hBr : B ≤ wr.heap.size := Nat.le_trans hB FR.out.size
      have fa := (Fr.refl wr.heap.size [] wr).alloc (Nat.le_refl _) (.cells (ndA x sf sp) 50)
      have HW := node_any x sf sp (some ⟨b1, o1, none⟩) c B n M (wr.alloc (.cells (ndA x sf sp) 50)) (hin.frw fa hBr (by simp)) (HND.frw fa hBr (by simp)) (Nat.le_trans hBr fa.size) HS.out hsm.1 hsm.2
      have BX := Lib.hid (Blk.new wr 50 (ndA x sf sp))
      have HOa := Lib.hid (ownsRow_fr HO.out fa (fun q hq => ⟨(HO.out.lt q hq).2, by simp⟩))
      have FRa := Lib.hid (FR.out.trans (fa.mono (B' := w.heap.size) (L' := []) FR.out.size (by simp)))
      obtain ⟨⟨Af, cf, hf1, _⟩, ⟨Ap, cp, hp1, _⟩⟩ := hin
      simp only at hf1 hp1 hsm HTK HMEM
      subst hf1
      subst hp1
      obtain ⟨nb, hnb⟩ : ∃ b, b = nodeB L x := ⟨_, rfl⟩
      rw [show (M.map (·.1)) = L from HL.out.symm, ← hnb] at HW
      have HW := Lib.hid HW
      have HNB := Lib.hid hnb
      obtain ⟨g0, g1, g2, g3, g4, g5, g6, g7, g8, g9, g10, g11, g12⟩ := ndL_get (x, .slice Af x.fr.length cf, .slice Ap x.pg.length cp)
      have p0 := hc1 0 _ g0
      have p1 := hc1 1 _ g1
      have p2 := hc1 2 _ g2
      have p3 := hc1 3 _ g3
      have p4 := hc1 4 _ g4
      have p5 := hc1 5 _ g5
      have p6 := hc1 6 _ g6
      have p7 := hc1 7 _ g7
      have p8 := hc1 8 _ g8
      have p9 := hc1 9 _ g9
      have p10 := hc1 10 _ g10
      have p11 := hc1 11 _ g11
      have p12 := hc1 12 _ g12
      simp only [Nat.add_zero] at p0
      obtain ⟨nf, hnf⟩ : ∃ z, z = x.fr.length := ⟨_, rfl⟩
      obtain ⟨np, hnp⟩ : ∃ z, z = x.pg.length := ⟨_, rfl⟩
      rw [← hnf] at p2 HW BX HOa FRa
      rw [← hnp] at p3 HW BX HOa FRa
      clear hc1 hx g0 g1 g2 g3 g4 g5 g6 g7 g8 g9 g10 g11 g12 HND hsm hnf hnp fa HO FR hb1 hnb
      go_upto_region 7 with fail
      clear p0 p1 p2 p3 p4 p5 p6 p7 p8 p9 p10 p11 p12
      generalize wr.alloc (.cells (ndA x (.slice Af nf cf) (.slice Ap np cp)) 50) = wa at *
      generalize wr.heap.size = gx at *
      have q0 := BX.out.cell 0
      have q1 := BX.out.cell 1
      have q2 := BX.out.cell 2
      have q3 := BX.out.cell 3
      have q4 := BX.out.cell 4
      have q5 := BX.out.cell 5
      have q6 := BX.out.cell 6
      have q7 := BX.out.cell 7
      have q8 := BX.out.cell 8
      have q9 := BX.out.cell 9
      have q10 := BX.out.cell 10
      have q11 := BX.out.cell 11
      have q12 := BX.out.cell 12
      simp at q0 q1 q2 q3 q4 q5 q6 q7 q8 q9 q10 q11 q12
      cases nb with
      | false =>
        have hv : cv = 10 := by rw [HCV.out]; exact checkN_bad (by rw [HNL.out]; exact hn8) HMEM.out HNB.out.symm
        have HV := Lib.hid hv
        clear hv
        go_wp2_with fail
        refine HW.out.mono ?_
        rintro e w2 ⟨rfl, f2⟩
        have F2 := Lib.hid (FRa.out.trans (f2.mono (B' := w.heap.size) (L' := []) FRa.out.size (by simp)))
        clear f2 HW
        go_wp2_with fail
        go_ret
        exact ⟨by rw [HV.out]; rfl, F2.out⟩
      | true =>
        go_wp2_with fail
        refine HW.out.mono ?_
        rintro e w2 ⟨rfl, f2⟩
        have HO2 := Lib.hid (ownsRow_fr HOa.out f2 (fun q hq => ⟨(HOa.out.lt q hq).2, by simp⟩))
        have F2 := Lib.hid (FRa.out.trans (f2.mono (B' := w.heap.size) (L' := []) FRa.out.size (by simp)))
        have BX2 := Lib.hid (BX.out.fr f2 BX.out.lt (by simp))
        clear f2 HW q0 q1 q2 q3 q4 q5 q6 q7 q8 q9 q10 q11 q12 BX HOa FRa
        have q0 := BX2.out.cell 0
        simp at q0
        have hown := HO2.out
        have hsz := F2.out.size
        go_wp2_with (at_builtin; refine wpList_app_lit _ rfl (.tmp 19) (.tmp 22) intsTy rfl w.heap.size (.slice A' k c') k _ rfl hown 1 1 _ rfl rfl (by simp [Value.oneCell']) (by omega) (by omega) hsz ?_; intro A3 c3 w4 hown4 hg4 hat4)
        have F4 := Lib.hid (F2.out.trans (Fr.of_app hg4 hown hsz))
        have HO4 := Lib.hid hown4
        clear hown4 hg4 hat4 hown
        go_roundg (n - (k + 1))
        case measure => omega
        case rel => exact ⟨k + 1, A3, c3, by omega, rfl, by go_num, rfl, Lib.hid (by
          rw [HTK.out]
          intro y hy
          rcases List.mem_append.1 hy with hy | hy
          · exact HG.out y hy
          · rw [List.mem_singleton.1 hy]; exact HNB.out.symm), by rw [HTK.out]; simpa [idsN] using HO4, F4⟩
    · obtain rfl : k = n := by omega
      have htk : L.take k = L := List.take_of_length_le (by rw [HNL.out]; exact Nat.le_refl _)
      rw [htk] at HG HO
      have HGOOD := Lib.hid (checkN_good (by rw [HNL.out]; exact hn8) HG.out)
      have hln : k = (idsN L).length := by simp [idsN, HNL.out]
      have HLN := Lib.hid hln
      have HU := unlike_any A' k c' _ (idsN L) wr hln (by omega) (Reads.of_own HO.out) (Nat.le_refl _)
      obtain ⟨ub, hub⟩ : ∃ b, b = unlikeB (idsN L) := ⟨_, rfl⟩
      obtain ⟨zb, hzb⟩ : ∃ b, b = hasI (idsN L) 0 := ⟨_, rfl⟩
      rw [← hub] at HU HGOOD
      rw [← hzb] at HGOOD
      have HZB := Lib.hid hzb
      have HU := Lib.hid HU
      clear htk hln hub hzb
      cases ub with
      | false =>
        have hv : cv = 10 := by rw [HCV.out, HGOOD.out]; rfl
        have HV := Lib.hid hv
        clear hv
        go_wp2_with fail
        refine HU.out.mono ?_
        rintro e w2 ⟨rfl, f2⟩
        have F2 := Lib.hid (FR.out.trans (f2.mono (B' := w.heap.size) (L' := []) FR.out.size (by simp)))
        clear f2 HU
        go_wp2_with fail
        go_ret
        exact ⟨by rw [HV.out]; rfl, F2.out⟩
      | true =>
        go_wp2_with fail
        refine HU.out.mono ?_
        rintro e w2 ⟨rfl, f2⟩
        have F2 := Lib.hid (FR.out.trans (f2.mono (B' := w.heap.size) (L' := []) FR.out.size (by simp)))
        have HO2 := ownsRow_fr HO.out f2 (fun q hq => ⟨(HO.out.lt q hq).2, by simp⟩)
        have HC := ihas_any 0 A' c' _ k (idsN L) w2 HLN.out (by omega) (Reads.of_own HO2) (Nat.le_refl _)
        rw [← HZB.out] at HC
        have HC := Lib.hid HC
        clear f2 HU HO2 HZB
        cases zb with
        | false =>
          have hv : cv = 10 := by rw [HCV.out, HGOOD.out]; rfl
          have HV := Lib.hid hv
          clear hv
          go_wp2_with fail
          refine HC.out.mono ?_
          rintro e w3 ⟨rfl, f3⟩
          have F3 := Lib.hid (F2.out.trans (f3.mono (B' := w.heap.size) (L' := []) F2.out.size (by simp)))
          clear f3 HC
          go_wp2_with fail
          go_ret
          exact ⟨by rw [HV.out]; rfl, F3.out⟩
        | true =>
          go_wp2_with fail
          refine HC.out.mono ?_
          rintro e w3 ⟨rfl, f3⟩
          have F3 := Lib.hid (F2.out.trans (f3.mono (B' := w.heap.size) (L' := []) F2.out.size (by simp)))
          have HSO := sort_any A c B k M w3 (H.out.frw F3.out hB (by simp)) (Nat.le_trans hB F3.out.size) HS.out (by omega)
          rw [← HL.out] at HSO
          have HSO := Lib.hid HSO
          clear f3 HC
          go_wp2_with fail
          refine HSO.out.mono ?_
          rintro e w4 ⟨A4, c4, q, hq, rfl, _, f4⟩
          have F4 := Lib.hid (F3.out.trans (f4.mono (B' := w.heap.size) (L' := []) F3.out.size (by simp)))
          have HQ := Lib.hid hq
          clear f4 HSO hq
          by_cases hqk : q = k
          · have hv : cv = 0 := by rw [HCV.out, HGOOD.out, ← HQ.out, HNL.out, decide_eq_true hqk]; rfl
            have HV := Lib.hid hv
            subst hqk
            clear hv
            go_wp2_with fail
            go_ret
            exact ⟨by rw [HV.out]; rfl, F4.out⟩
          · have hv : cv = 10 := by rw [HCV.out, HGOOD.out, ← HQ.out, HNL.out, decide_eq_false hqk]; rfl
            have HV := Lib.hid hv
            have hne : ((q : Int) == (k : Int)) = false := by simp; omega
            have hne2 : ((q : Int) != (k : Int)) = true := by simp; omega
            clear hv
            go_wp2_with fail
            go_ret
            exact ⟨by rw [HV.out]; rfl, F4.out⟩
/-- The order. -/
def orderN (L : List Nd) : List Int := if checkN L = 0 then sortN L else []
end Go.Proofs.YtfakgidimekikaaGreat
namespace Go.Proofs.YtfakgidimekikaaGreat
open Go.RowKit Go.Fb
def zNd : Nd := ⟨0, 0, 0, [], [], fun _ => 0⟩
/-- A node, or the zero one. -/
def getN (L : List Nd) (id : Int) : Nd := (findN L id).getD zNd
theorem FindOut.get {L : List Nd} {id : Int} {w w' : World} {e : Ending} (h : FindOut L id w e w') : ∃ x sf sp, x = getN L id ∧ e = .returned (.tuple #[.agg (ndA x sf sp), .bool (findN L id).isSome]) ∧ NdIn w' w'.heap.size (x, sf, sp) ∧ Fr w.heap.size [] w w' := by
  obtain ⟨h | ⟨x, sf, sp, h1, h2, h3⟩, hf⟩ := h
  · refine ⟨zNd, .slice none 0 0, .slice none 0 0, ?_, ?_, ⟨⟨none, 0, rfl, Reads.none_⟩, ⟨none, 0, rfl, Reads.none_⟩⟩, hf⟩
    · rw [getN, h.1]; rfl
    · rw [h.2, h.1]; rfl
  · refine ⟨x, sf, sp, ?_, ?_, h3, hf⟩
    · rw [getN, h1]; rfl
    · rw [h2, h1]; rfl
theorem getN_small {M : List Ndm} (h : Small M) (id : Int) : (getN (fstN M) id).fr.length ≤ 1000000 ∧ (getN (fstN M) id).pg.length ≤ 1000000 := by
  unfold getN
  cases hf : findN (fstN M) id with
  | none => simp [zNd]
  | some x =>
    obtain ⟨m, hm, rfl⟩ := List.mem_map.1 (findN_mem hf)
    exact h.2 m hm
def belB (id : Int) (out : List Int) (f : Int) : Bool := decide (f = id) || hasI out f
/-- What stands below a node, as far as it is gone through. -/
def belN (L : List Nd) (id : Int) : List Int → List Int → List Int
  | [], out => out
  | n :: l, out => belN L id l (if (getN L n).fr.any (belB id out) then out ++ [n] else out)
theorem belN_snoc (L : List Nd) (id n : Int) : ∀ (l out : List Int), belN L id (l ++ [n]) out = if (getN L n).fr.any (belB id (belN L id l out)) then belN L id l out ++ [n] else belN L id l out
  | [], _ => rfl
  | _ :: l, _ => belN_snoc L id n l _
theorem belN_le (L : List Nd) (id : Int) : ∀ (l out : List Int), (belN L id l out).length ≤ out.length + l.length
  | [], _ => Nat.le_refl _
  | n :: l, out => by
    have hle : (if (getN L n).fr.any (belB id out) then out ++ [n] else out).length ≤ out.length + 1 := by split <;> simp
    have h := belN_le L id l (if (getN L n).fr.any (belB id out) then out ++ [n] else out)
    show (belN L id l (if (getN L n).fr.any (belB id out) then out ++ [n] else out)).length ≤ out.length + (l.length + 1)
    omega
def belowN (L : List Nd) (id : Int) : List Int := srt (belN L id (orderN L) [])
theorem orderN_le (L : List Nd) : (orderN L).length ≤ 8 := by
  unfold orderN
  split
  · rename_i h
    have hr := checkN_zero.1 h
    rw [hr.complete]
    exact hr.len
  · simp
/-- What holds in the loop of Below. -/
structure BelJ (gI gO : Nat) (id : Int) (L : List Nd) (l : List Int) (w w2 wr : World) (k : Nat) (A' : Option Addr) (q c' : Nat) : Prop where
  fr2 : Fr w.heap.size [] w w2
  blI : Blk w2 gI 3 #[.int .i64 id]
  fr : Fr w2.heap.size [gO] w2 wr
  box : Blk wr gO 46 #[.slice A' q c']
  own : wr.ownsRow w2.heap.size 3 1 (.slice A' q c') q ((belN L id (l.take k) []).map (Value.int .i64))
  len : q = (belN L id (l.take k) []).length
theorem BelJ.mv {gI gO : Nat} {id : Int} {L : List Nd} {l : List Int} {w w2 wr wi : World} {k : Nat} {A' : Option Addr} {q c' : Nat} (h : BelJ gI gO id L l w w2 wr k A' q c') (hf : Fr wr.heap.size [] wr wi) : BelJ gI gO id L l w w2 wi k A' q c' :=
  ⟨h.fr2, h.blI, h.fr.trans (hf.mono (B' := w2.heap.size) (L' := [gO]) h.fr.size (by simp)), h.box.fr hf h.box.lt (by simp), ownsRow_fr h.own hf (fun q hq => ⟨(h.own.lt q hq).2, by simp⟩), h.len⟩
theorem BelJ.bi {gI gO : Nat} {id : Int} {L : List Nd} {l : List Int} {w w2 wr : World} {k : Nat} {A' : Option Addr} {q c' : Nat} (h : BelJ gI gO id L l w w2 wr k A' q c') (hg : gI ≠ gO) : Blk wr gI 3 #[.int .i64 id] := h.blI.fr h.fr h.blI.lt (by simpa using hg)
theorem BelJ.frw {gI gO : Nat} {id : Int} {L : List Nd} {l : List Int} {w w2 wr : World} {k : Nat} {A' : Option Addr} {q c' : Nat} (h : BelJ gI gO id L l w w2 wr k A' q c') (hg : w.heap.size ≤ gO) : Fr w.heap.size [] w wr :=
  h.fr2.trans (h.fr.mono h.fr2.size (by intro q hq hlt; simp at hq; omega))
theorem BelJ.stay {gI gO : Nat} {id n : Int} {L : List Nd} {l : List Int} {w w2 wr : World} {k : Nat} {A' : Option Addr} {q c' : Nat} (h : BelJ gI gO id L l w w2 wr k A' q c') (hn : l[k]? = some n) (hf : (getN L n).fr.any (belB id (belN L id (l.take k) [])) = false) : BelJ gI gO id L l w w2 wr (k + 1) A' q c' := by
  have e : belN L id (l.take (k + 1)) [] = belN L id (l.take k) [] := by
    rw [List.take_add_one, hn]
    show belN L id (l.take k ++ [n]) [] = _
    rw [belN_snoc, hf]; rfl
  exact ⟨h.fr2, h.blI, h.fr, h.box, by rw [e]; exact h.own, by rw [e]; exact h.len⟩
theorem BelJ.more {gI gO : Nat} {id n : Int} {L : List Nd} {l : List Int} {w w2 w3 w4 : World} {k : Nat} {A' A3 : Option Addr} {q c' c3 : Nat} {news : Array Value} (h : BelJ gI gO id L l w w2 w3 k A' q c') (hn : l[k]? = some n) (hf : (getN L n).fr.any (belB id (belN L id (l.take k) [])) = true)
    (ho : w4.ownsRow w2.heap.size 3 1 (.slice A3 (q + 1) c3) (q + 1) ((belN L id (l.take k) []).map (Value.int .i64) ++ [Value.int .i64 n])) (hg : (w3.alloc (.cells news 3)).grownBy w4 (Value.ownBlock (.slice A' q c'))) : BelJ gI gO id L l w w2 (w4.setCell ⟨gO, 0, none⟩ (.slice A3 (q + 1) c3)) (k + 1) A3 (q + 1) c3 := by
  have e : belN L id (l.take (k + 1)) [] = belN L id (l.take k) [] ++ [n] := by
    rw [List.take_add_one, hn]
    show belN L id (l.take k ++ [n]) [] = _
    rw [belN_snoc, hf]; rfl
  have hb4 : Blk w4 gO 46 #[.slice A' q c'] := (h.box.alloc _).grown hg (h.box.ne_own h.own (by decide))
  refine ⟨h.fr2, h.blI, ?_, by simpa using hb4.set_ 0 (.slice A3 (q + 1) c3), ?_, ?_⟩
  · have f4 := Fr.of_app hg h.own h.fr.size
    exact (h.fr.trans (f4.mono (Nat.le_refl _) (by simp))).setCell (.inr (by simp)) _
  · rw [e, List.map_append]
    exact ownsRow_setCell_other ho (fun e => hb4.ne_own ho (by decide) e.symm) _
  · rw [e, List.length_append, ← h.len]; rfl
end Go.Proofs.YtfakgidimekikaaGreat
namespace Go.Proofs.YtfakgidimekikaaGreat
open Go.RowKit Go.Fb
set_option maxRecDepth 100000 in
theorem rhas_any (v : Int) (A : Option Addr) (c B n : Nat) (l : List Int) (w : World) (hn : n = l.length) (hm : n ≤ 1000000) (hr : Reads w B 1 A n (l.map (Value.int .i64))) :
    Calls Tryz.prog 91 #[.slice A n c, .int .i64 v] w fun e w' => e = .returned (.bool (hasI l v)) ∧ w = w' := by
  have HR := Lib.hid hr
  have HN := Lib.hid hn
  clear hr hn
  go_enter Tryz.func91, Tryz.ntmps91
  go_wp2_with fail
  go_loop [5] (fun s => ∃ k : Nat, k ≤ n ∧ s = .int .i64 k ∧ RowKit.Hid (∀ x ∈ l.take k, x ≠ v)) (fun s => n - (intOf s).toNat)
  case atStart => exact ⟨0, Nat.zero_le _, rfl, Lib.hid (by simp)⟩
  case round =>
    obtain ⟨k, hk, rfl, HB⟩ := hrel
    by_cases hkn : k < n
    · have hki : (k : Int) < (n : Int) := by omega
      have hk0 : (0 : Int) ≤ (k : Int) := by omega
      obtain ⟨b, off, u, rfl, hb, hu, hc⟩ := HR.out.one hkn
      obtain ⟨x, hx⟩ : ∃ x, l[k]? = some x := ⟨_, List.getElem?_eq_getElem (by rw [← HN.out]; exact hkn)⟩
      rw [List.getElem?_map, hx] at hu
      simp at hu
      subst hu
      have HX := Lib.hid hx
      clear hx
      by_cases e : x = v
      · have hv : hasI l v = true := hasI_iff.2 (e ▸ List.mem_of_getElem? HX.out)
        have HV := Lib.hid hv
        have he : (x == v) = true := by simpa using e
        clear hv e
        go_wp2_with fail
        go_ret
        exact ⟨by rw [HV.out]; rfl, rfl⟩
      · have he : (x == v) = false := by simpa using e
        have HB2 := Lib.hid (show ∀ y ∈ l.take (k + 1), y ≠ v from fun y hy => by
          rw [List.take_add_one, HX.out] at hy
          rcases List.mem_append.1 hy with hy | hy
          · exact HB.out y hy
          · simp at hy; rw [hy]; exact e)
        clear e
        go_wp2_with fail
        go_round
        case rel => exact ⟨k + 1, by omega, by go_num, HB2⟩
        case measure => simp [intOf]; omega
    · obtain rfl : k = n := by omega
      have hv : hasI l v = false := by
        have htk : l.take k = l := List.take_of_length_le (by rw [HN.out]; exact Nat.le_refl _)
        have h := HB.out
        rw [htk] at h
        cases hh : hasI l v with
        | false => rfl
        | true => exact absurd rfl (h v (hasI_iff.1 hh))
      have HV := Lib.hid hv
      clear hv
      go_wp2_with fail
      go_ret
      exact ⟨by rw [HV.out]; rfl, rfl⟩
/-- The place of the first node of a number; -1: none. -/
def ixN (L : List Nd) (id : Int) : Int := match L.findIdx? (fun x => decide (x.id = id)) with
  | none => -1
  | some k => (k : Int)
theorem findIdx_at : ∀ {L : List Nd} {id : Int} {k : Nat} {x : Nd}, L[k]? = some x → x.id = id → (∀ y ∈ L.take k, y.id ≠ id) → L.findIdx? (fun x => decide (x.id = id)) = some k
  | [], _, _, _, h, _, _ => by simp at h
  | y :: L, id, 0, x, h, e, _ => by
    simp at h
    subst h
    rw [List.findIdx?_cons]
    simp [e]
  | y :: L, id, k + 1, x, h, e, hb => by
    have h0 := hb y (by simp)
    rw [List.findIdx?_cons]
    have ih := findIdx_at (L := L) (id := id) (k := k) (by simpa using h) e fun z hz => hb z (by simp [hz])
    simp [h0, ih]
theorem ixN_cases (L : List Nd) (id : Int) : (ixN L id = -1 ∧ findN L id = none) ∨ ∃ (k : Nat) (x : Nd), ixN L id = k ∧ L[k]? = some x ∧ findN L id = some x := by
  unfold ixN findN
  induction L with
  | nil => left; simp
  | cons y L ih =>
    rw [List.findIdx?_cons, List.find?_cons]
    by_cases e : y.id = id
    · right; exact ⟨0, y, by simp [e], rfl, by simp [e]⟩
    · simp only [e, decide_false, Bool.false_eq_true, if_false]
      rcases ih with ⟨h1, h2⟩ | ⟨k, x, h1, h2, h3⟩
      · left
        refine ⟨?_, h2⟩
        cases hf : L.findIdx? (fun x => decide (x.id = id)) with
        | none => rfl
        | some k => rw [hf] at h1; simp only at h1; omega
      · right
        refine ⟨k + 1, x, ?_, by simpa using h2, h3⟩
        cases hf : L.findIdx? (fun x => decide (x.id = id)) with
        | none => rw [hf] at h1; simp only at h1; omega
        | some k' => rw [hf] at h1; simp only at h1; simp; omega
theorem ixN_none {L : List Nd} {id : Int} (h : ∀ y ∈ L, y.id ≠ id) : ixN L id = -1 := by
  unfold ixN
  rw [List.findIdx?_eq_none_iff.2 (fun x hx => by simpa using h x hx)]
theorem ixN_at {L : List Nd} {id : Int} {k : Nat} {x : Nd} (h : L[k]? = some x) (e : x.id = id) (hb : ∀ y ∈ L.take k, y.id ≠ id) : ixN L id = k := by
  unfold ixN
  rw [findIdx_at h e hb]
theorem fst_take {M : List Ndm} {k : Nat} {m : Ndm} (h : M[k]? = some m) : (fstN M).take (k + 1) = (fstN M).take k ++ [m.1] := by
  rw [List.take_add_one]; simp [fstN, h]
set_option maxRecDepth 100000 in
set_option maxHeartbeats 1000000 in
theorem rfind_any (id : Int) (A : Option Addr) (c B n : Nat) (M : List Ndm) (w : World) (h : Nds w B A n M) (hm : n ≤ 1000000) :
    Calls Tryz.prog 65 #[.slice A n c, .int .i64 id] w fun e w' => e = .returned (.int .i64 (ixN (fstN M) id)) ∧ w = w' := by
  have H := Lib.hid h
  have HN := Lib.hid h.num
  obtain ⟨L, hL⟩ : ∃ L, L = fstN M := ⟨_, rfl⟩
  have HL := Lib.hid hL
  obtain ⟨v, hv⟩ : ∃ v, v = ixN L id := ⟨_, rfl⟩
  have HV := Lib.hid hv
  rw [← hL, ← hv]
  clear h hL hv
  go_enter Tryz.func65, Tryz.ntmps65
  go_wp2_with fail
  go_loop [5] (fun s => ∃ k : Nat, k ≤ n ∧ s = .int .i64 k ∧ RowKit.Hid (∀ x ∈ L.take k, x.id ≠ id)) (fun s => n - (intOf s).toNat)
  case atStart => exact ⟨0, Nat.zero_le _, rfl, Lib.hid (by simp)⟩
  case round =>
    obtain ⟨k, hk, rfl, HB⟩ := hrel
    by_cases hkn : k < n
    · have hki : (k : Int) < (n : Int) := by omega
      have hk0 : (0 : Int) ≤ (k : Int) := by omega
      obtain ⟨m, hx⟩ : ∃ m, M[k]? = some m := ⟨_, List.getElem?_eq_getElem (by rw [← HN.out]; exact hkn)⟩
      obtain ⟨b1, o1, rfl, hb1, hc1⟩ := H.out.get hx
      have p0 := hc1 0 _ (ndL_get m).1
      simp only [Nat.add_zero] at p0
      have HX := Lib.hid (show L[k]? = some m.1 by rw [HL.out]; simp [fstN, hx])
      have HTK := Lib.hid (show L.take (k + 1) = L.take k ++ [m.1] by rw [HL.out]; exact fst_take hx)
      obtain ⟨x, sf, sp⟩ := m
      simp only at p0 HX HTK
      obtain ⟨i, hi⟩ : ∃ i, i = x.id := ⟨_, rfl⟩
      rw [← hi] at p0
      have HI := Lib.hid hi
      clear hc1 hx hi
      by_cases e : i = id
      · have hv : v = k := by rw [HV.out]; exact ixN_at HX.out (by rw [← HI.out]; exact e) HB.out
        have HVV := Lib.hid hv
        have he : (i == id) = true := by simpa using e
        clear hv e
        go_wp2_with fail
        go_ret
        exact ⟨by rw [HVV.out]; rfl, rfl⟩
      · have he : (i == id) = false := by simpa using e
        have HB2 := Lib.hid (show ∀ y ∈ L.take (k + 1), y.id ≠ id from fun y hy => by
          rw [HTK.out] at hy
          rcases List.mem_append.1 hy with hy | hy
          · exact HB.out y hy
          · simp at hy; rw [hy, ← HI.out]; exact e)
        clear e
        go_wp2_with fail
        go_round
        case rel => exact ⟨k + 1, by omega, by go_num, HB2⟩
        case measure => simp [intOf]; omega
    · obtain rfl : k = n := by omega
      have hv : v = -1 := by
        have htk : L.take k = L := List.take_of_length_le (by rw [HL.out, HN.out]; simp [fstN])
        have h := HB.out
        rw [htk] at h
        rw [HV.out]
        exact ixN_none h
      have HVV := Lib.hid hv
      clear hv
      go_wp2_with fail
      go_ret
      exact ⟨by rw [HVV.out]; rfl, rfl⟩
end Go.Proofs.YtfakgidimekikaaGreat
namespace Go.Proofs.YtfakgidimekikaaGreat
open Go.RowKit Go.Fb
theorem any_take {α : Type} {p : α → Bool} {l : List α} {k : Nat} {x : α} (hx : l[k]? = some x) (hp : p x = true) : l.any p = true := List.any_eq_true.2 ⟨x, List.mem_of_getElem? hx, hp⟩
theorem any_none {α : Type} {p : α → Bool} {l : List α} (h : ∀ x ∈ l, p x = false) : l.any p = false := by rw [List.any_eq_false]; intro x hx; simp [h x hx]
set_option maxRecDepth 100000 in
set_option maxHeartbeats 2000000 in
theorem rabove_any (tg : Int) (A : Option Addr) (c B n : Nat) (M : List Ndm) (w : World) (h : Nds w B A n M) (hs : Small M) : ∀ (s : Nat) (f : Int), s ≤ 100 →
    Calls Tryz.prog 92 #[.slice A n c, .int .i64 f, .int .i64 tg, .int .i64 s] w fun e w' => e = .returned (.bool (aboveN (fstN M) tg s f)) ∧ w = w'
  | s, f, hs100 => by
    have hm : n ≤ 1000000 := by rw [h.num]; exact hs.1
    have HFI := rfind_any f A c B n M w h hm
    have HREC : ∀ s', s = s' + 1 → ∀ f', Calls Tryz.prog 92 #[.slice A n c, .int .i64 f', .int .i64 tg, .int .i64 s'] w fun e w' => e = .returned (.bool (aboveN (fstN M) tg s' f')) ∧ w = w' := fun s' e f' => rabove_any tg A c B n M w h hs s' f' (by omega)
    obtain ⟨L, hL⟩ : ∃ L, L = fstN M := ⟨_, rfl⟩
    rw [← hL] at HFI HREC ⊢
    have HL := Lib.hid hL
    have H := Lib.hid h
    have HS := Lib.hid hs
    have HREC := Lib.hid HREC
    clear hL h hs
    rcases ixN_cases L f with ⟨h1, h2⟩ | ⟨k, x, h1, h2, h3⟩
    · rw [h1] at HFI
      have hv : aboveN L tg s f = false := by cases s with
        | zero => rfl
        | succ s => unfold aboveN; rw [h2]
      rw [hv]
      have HFI := Lib.hid HFI
      clear h1 h2 hv
      go_enter Tryz.func92, Tryz.ntmps92
      go_wp2_with fail
      refine HFI.out.mono ?_
      rintro e w1 ⟨rfl, rfl⟩
      go_wp2_with fail
      go_ret
      exact ⟨rfl, rfl⟩
    · rw [h1] at HFI
      have HFI := Lib.hid HFI
      cases s with
      | zero =>
        clear h1 h2 h3
        have hk1 : decide ((k : Int) < 0) = false := decide_eq_false (by omega)
        have hv : aboveN L tg 0 f = false := rfl
        rw [hv]
        clear hv
        show Calls Tryz.prog 92 #[.slice A n c, .int .i64 f, .int .i64 tg, .int .i64 0] w _
        go_enter Tryz.func92, Tryz.ntmps92
        go_wp2_with fail
        refine HFI.out.mono ?_
        rintro e w1 ⟨rfl, rfl⟩
        go_wp2_with fail
        go_ret
        exact ⟨rfl, rfl⟩
      | succ s =>
        have HR := Lib.hid (HREC.out s rfl)
        have hv : aboveN L tg (s + 1) f = x.fr.any (fun k => decide (k = tg) || aboveN L tg s k) := by
          conv => lhs; unfold aboveN
          rw [h3]
        obtain ⟨vb, hvb⟩ : ∃ b, b = aboveN L tg (s + 1) f := ⟨_, rfl⟩
        rw [← hvb]
        rw [← hvb] at hv
        have HV := Lib.hid hv
        have hkn : k < n := by
          have := (List.getElem?_eq_some_iff.1 h2).1
          rw [HL.out] at this
          simp [fstN] at this
          rw [H.out.num]
          exact this
        obtain ⟨m, hx⟩ : ∃ m, M[k]? = some m := ⟨_, List.getElem?_eq_getElem (by rw [← H.out.num]; exact hkn)⟩
        have hmx : m.1 = x := by
          have := h2
          rw [HL.out] at this
          simp [fstN, hx] at this
          exact this
        obtain ⟨b1, o1, rfl, hb1, hc1⟩ := H.out.get hx
        have hin := H.out.inn m (List.mem_of_getElem? hx)
        have hsm := HS.out.2 m (List.mem_of_getElem? hx)
        obtain ⟨x', sf, sp⟩ := m
        simp only at hmx hsm
        subst hmx
        obtain ⟨⟨Af, cf, hf1, hf2⟩, _⟩ := hin
        simp only at hf1 hf2
        subst hf1
        have p2 := hc1 2 _ (ndL_get (x', .slice Af x'.fr.length cf, sp)).2.2.1
        obtain ⟨nf, hnf⟩ : ∃ z, z = x'.fr.length := ⟨_, rfl⟩
        rw [← hnf] at p2 hf2
        have hnf1 : nf ≤ 1000000 := by rw [hnf]; exact hsm.1
        have HNF := Lib.hid hnf
        have RF := Lib.hid hf2
        have hki : (k : Int) < (n : Int) := by omega
        have hk0 : (0 : Int) ≤ (k : Int) := by omega
        have hk1 : decide ((k : Int) < 0) = false := decide_eq_false (by omega)
        have hs1 : ((s : Int) + 1 == 0) = false := by simp; omega
        have hs2 : (0 : Int) ≤ (s : Int) := by omega
        have hs3 : (s : Int) ≤ 100 := by omega
        clear hc1 hx h1 h2 h3 hv hvb hsm hnf hf2 hs100 HREC hb1
        have hcast : ((s + 1 : Nat) : Int) = (s : Int) + 1 := by omega
        rw [hcast]
        clear hcast
        go_enter Tryz.func92, Tryz.ntmps92
        go_wp2_with fail
        refine HFI.out.mono ?_
        rintro e w1 ⟨rfl, rfl⟩
        go_wp2_with fail
        go_loop [10] (fun t => ∃ j : Nat, j ≤ nf ∧ t = .int .i64 j ∧ RowKit.Hid (∀ y ∈ x'.fr.take j, (decide (y = tg) || aboveN L tg s y) = false)) (fun t => nf - (intOf t).toNat)
        case atStart => exact ⟨0, Nat.zero_le _, rfl, Lib.hid (by simp)⟩
        case round =>
          obtain ⟨j, hj, rfl, HB⟩ := hrel
          by_cases hjn : j < nf
          · have hji : (j : Int) < (nf : Int) := by omega
            have hj0 : (0 : Int) ≤ (j : Int) := by omega
            obtain ⟨b, off, u, rfl, hb, hu, hc⟩ := RF.out.one hjn
            obtain ⟨y, hy⟩ : ∃ y, x'.fr[j]? = some y := ⟨_, List.getElem?_eq_getElem (by rw [← HNF.out]; exact hjn)⟩
            rw [List.getElem?_map, hy] at hu
            simp at hu
            subst hu
            have HY := Lib.hid hy
            clear hy hb
            by_cases e : y = tg
            · have hv : vb = true := by rw [HV.out]; exact any_take HY.out (by simp [e])
              have H := Lib.hid hv
              have he : (y == tg) = true := by simpa using e
              clear hv e
              go_wp2_with fail
              go_ret
              exact ⟨by rw [H.out]; rfl, rfl⟩
            · have he : (y == tg) = false := by simpa using e
              have HRY := HR.out y
              obtain ⟨ab, hab⟩ : ∃ b, b = aboveN L tg s y := ⟨_, rfl⟩
              rw [← hab] at HRY
              have HRY := Lib.hid HRY
              have HAB := Lib.hid hab
              clear hab
              cases ab with
              | true =>
                have hv : vb = true := by rw [HV.out]; exact any_take HY.out (by rw [← HAB.out]; simp)
                have H := Lib.hid hv
                clear hv e
                go_wp2_with fail
                refine HRY.out.mono ?_
                rintro e w1 ⟨rfl, rfl⟩
                go_wp2_with fail
                go_ret
                exact ⟨by rw [H.out]; rfl, rfl⟩
              | false =>
                have HB2 := Lib.hid (show ∀ y ∈ x'.fr.take (j + 1), (decide (y = tg) || aboveN L tg s y) = false from fun z hz => by
                  rw [List.take_add_one, HY.out] at hz
                  rcases List.mem_append.1 hz with hz | hz
                  · exact HB.out z hz
                  · simp at hz; rw [hz, ← HAB.out]; simp [e])
                clear e
                go_wp2_with fail
                refine HRY.out.mono ?_
                rintro e w1 ⟨rfl, rfl⟩
                go_wp2_with fail
                go_round
                case rel => exact ⟨j + 1, by omega, by go_num, HB2⟩
                case measure => simp [intOf]; omega
          · obtain rfl : j = nf := by omega
            have hv : vb = false := by
              have htk : x'.fr.take j = x'.fr := List.take_of_length_le (by rw [HNF.out]; exact Nat.le_refl _)
              have h := HB.out
              rw [htk] at h
              rw [HV.out]
              exact any_none h
            have H := Lib.hid hv
            clear hv
            go_wp2_with fail
            go_ret
            exact ⟨by rw [H.out]; rfl, rfl⟩
def rngI (k : Nat) : List Int := (List.range k).map fun (i : Nat) => (i : Int)
theorem rngI_succ (k : Nat) : rngI (k + 1) = rngI k ++ [(k : Int)] := by unfold rngI; rw [List.range_succ, List.map_append]; rfl
theorem filt_len (p : Int → Bool) (k : Nat) : ((rngI k).filter p).length ≤ k := Nat.le_trans (List.length_filter_le _ _) (by simp [rngI])
/-- A node's children, by the document. -/
def childR (L : List Nd) (id : Int) : List Int := (rngI 8).filter fun n => hasI (getN L n).fr id
/-- What is below a node, by the document. -/
def belowR (L : List Nd) (id : Int) : List Int := (rngI 8).filter fun n => aboveN L id 9 n
theorem getN_some {L : List Nd} {id : Int} {x : Nd} (h : findN L id = some x) : getN L id = x := by unfold getN; rw [h]; rfl
theorem getN_none {L : List Nd} {id : Int} (h : findN L id = none) : getN L id = zNd := by unfold getN; rw [h]; rfl
theorem filt_yes {p : Int → Bool} {k : Nat} (h : p k = true) : (rngI (k + 1)).filter p = (rngI k).filter p ++ [(k : Int)] := by rw [rngI_succ, List.filter_append]; simp [h]
theorem filt_no {p : Int → Bool} {k : Nat} (h : p k = false) : (rngI (k + 1)).filter p = (rngI k).filter p := by rw [rngI_succ, List.filter_append]; simp [h]
/-- What holds in the loops of Children and Below. -/
structure FltJ (p : Int → Bool) (w wr : World) (k : Nat) (A' : Option Addr) (q c' : Nat) : Prop where
  fr : Fr w.heap.size [] w wr
  own : wr.ownsRow w.heap.size 3 1 (.slice A' q c') q (((rngI k).filter p).map (Value.int .i64))
  len : q = ((rngI k).filter p).length
theorem FltJ.mv {p : Int → Bool} {w wr wi : World} {k : Nat} {A' : Option Addr} {q c' : Nat} (h : FltJ p w wr k A' q c') (hf : Fr wr.heap.size [] wr wi) : FltJ p w wi k A' q c' :=
  ⟨h.fr.trans (hf.mono (B' := w.heap.size) (L' := []) h.fr.size (by simp)), ownsRow_fr h.own hf (fun q hq => ⟨(h.own.lt q hq).2, by simp⟩), h.len⟩
theorem FltJ.stay {p : Int → Bool} {w wr : World} {k : Nat} {A' : Option Addr} {q c' : Nat} (h : FltJ p w wr k A' q c') (hp : p k = false) : FltJ p w wr (k + 1) A' q c' :=
  ⟨h.fr, by rw [filt_no hp]; exact h.own, by rw [filt_no hp]; exact h.len⟩
theorem FltJ.more {p : Int → Bool} {w w3 w4 : World} {k : Nat} {A' A3 : Option Addr} {q c' c3 : Nat} {news : Array Value} (h : FltJ p w w3 k A' q c') (hp : p k = true)
    (ho : w4.ownsRow w.heap.size 3 1 (.slice A3 (q + 1) c3) (q + 1) (((rngI k).filter p).map (Value.int .i64) ++ [Value.int .i64 k])) (hg : (w3.alloc (.cells news 3)).grownBy w4 (Value.ownBlock (.slice A' q c'))) : FltJ p w w4 (k + 1) A3 (q + 1) c3 := by
  refine ⟨h.fr.trans (Fr.of_app hg h.own h.fr.size), ?_, ?_⟩
  · rw [filt_yes hp, List.map_append]; exact ho
  · rw [filt_yes hp, List.length_append, ← h.len]; rfl
set_option maxRecDepth 100000 in
set_option maxHeartbeats 2000000 in
theorem rchild_any (id : Int) (A : Option Addr) (c B n : Nat) (M : List Ndm) (w : World) (h : Nds w B A n M) (hB : B ≤ w.heap.size) (hs : Small M) :
    Calls Tryz.prog 140 #[.slice A n c, .int .i64 id] w (IntsOut (childR (fstN M) id) w) := by
  obtain ⟨L, hL⟩ : ∃ L, L = fstN M := ⟨_, rfl⟩
  have HL := Lib.hid hL
  have H := Lib.hid h
  have HS := Lib.hid hs
  have hm : n ≤ 1000000 := by rw [h.num]; exact hs.1
  rw [← hL]
  obtain ⟨p, hp⟩ : ∃ p : Int → Bool, p = fun n => hasI (getN L n).fr id := ⟨_, rfl⟩
  have HP := Lib.hid hp
  have HR := Lib.hid (show childR L id = (rngI 8).filter p by rw [hp]; rfl)
  have HJ := Lib.hid (show FltJ p w (w.alloc (.cells #[] 3)) 0 (some ⟨w.heap.size, 0, none⟩) 0 0 from ⟨(Fr.refl w.heap.size [] w).alloc (Nat.le_refl _) _, iowns_empty w, rfl⟩)
  clear hL h hs hp
  go_enter Tryz.func140, Tryz.ntmps140
  go_wp2_with fail
  generalize w.alloc (.cells #[] 3) = w1 at *
  go_loopg [5, 6] 8 (fun g s5 s6 wr => ∃ (k : Nat) (A' : Option Addr) (q c' : Nat), k ≤ 8 ∧ g = 8 - k ∧ s6 = .int .i64 k ∧ s5 = .slice A' q c' ∧ RowKit.Hid (FltJ p w wr k A' q c'))
  case atStart => exact ⟨0, _, 0, 0, Nat.zero_le _, rfl, rfl, rfl, HJ⟩
  case round =>
    obtain ⟨k, A', q, c', hk, rfl, rfl, rfl, HJ⟩ := hrel
    have hq8 : q ≤ 8 := by have h1 := HJ.out.len; have h2 := filt_len p k; omega
    by_cases hkn : k < 8
    · have hki : (k : Int) < 8 := by omega
      have hk0 : (0 : Int) ≤ (k : Int) := by omega
      have HND := H.out.frw HJ.out.fr hB (by simp)
      have HFI := rfind_any k A c B n M wr HND hm
      rw [← HL.out] at HFI
      rcases ixN_cases L k with ⟨h1, h2⟩ | ⟨i, x, h1, h2, h3⟩
      · rw [h1] at HFI
        have HFI := Lib.hid HFI
        have HJ2 := Lib.hid (HJ.out.stay (by rw [HP.out]; simp only; rw [getN_none h2]; rfl))
        clear h1 h2 HND
        go_wp2_with fail
        refine HFI.out.mono ?_
        rintro e w2 ⟨rfl, rfl⟩
        go_wp2_with fail
        go_roundg (8 - (k + 1))
        case measure => omega
        case rel => exact ⟨k + 1, A', q, c', by omega, rfl, by go_num, rfl, HJ2⟩
      · rw [h1] at HFI
        have HFI := Lib.hid HFI
        have hin : i < n := by
          have := (List.getElem?_eq_some_iff.1 h2).1
          rw [HL.out] at this
          simp [fstN] at this
          rw [H.out.num]
          exact this
        obtain ⟨m, hx⟩ : ∃ m, M[i]? = some m := ⟨_, List.getElem?_eq_getElem (by rw [← H.out.num]; exact hin)⟩
        have hmx : m.1 = x := by
          have := h2
          rw [HL.out] at this
          simp [fstN, hx] at this
          exact this
        obtain ⟨b1, o1, rfl, hb1, hc1⟩ := HND.get hx
        have hinn := HND.inn m (List.mem_of_getElem? hx)
        have hsm := HS.out.2 m (List.mem_of_getElem? hx)
        obtain ⟨x', sf, sp⟩ := m
        simp only at hmx hsm
        subst hmx
        obtain ⟨⟨Af, cf, hf1, hf2⟩, _⟩ := hinn
        simp only at hf1 hf2
        subst hf1
        have p2 := hc1 2 _ (ndL_get (x', .slice Af x'.fr.length cf, sp)).2.2.1
        have HH := rhas_any id Af cf B x'.fr.length x'.fr wr rfl hsm.1 hf2
        obtain ⟨nf, hnf⟩ : ∃ z, z = x'.fr.length := ⟨_, rfl⟩
        obtain ⟨pb, hpb⟩ : ∃ b, b = hasI x'.fr id := ⟨_, rfl⟩
        rw [← hnf] at p2 HH
        rw [← hpb] at HH
        have HPB := Lib.hid (show p k = pb by rw [HP.out, hpb]; simp only; rw [getN_some h3])
        have HH := Lib.hid HH
        have hki : (i : Int) < (n : Int) := by omega
        have hk0 : (0 : Int) ≤ (i : Int) := by omega
        clear hc1 hx h1 h2 h3 hsm hnf hf2 hb1 hpb HND
        cases pb with
        | false =>
          have HJ2 := Lib.hid (HJ.out.stay HPB.out)
          go_wp2_with fail
          refine HFI.out.mono ?_
          rintro e w2 ⟨rfl, rfl⟩
          go_wp2_with fail
          refine HH.out.mono ?_
          rintro e w2 ⟨rfl, rfl⟩
          go_wp2_with fail
          go_roundg (8 - (k + 1))
          case measure => omega
          case rel => exact ⟨k + 1, A', q, c', by omega, rfl, by go_num, rfl, HJ2⟩
        | true =>
          go_wp2_with fail
          refine HFI.out.mono ?_
          rintro e w2 ⟨rfl, rfl⟩
          go_wp2_with fail
          refine HH.out.mono ?_
          rintro e w2 ⟨rfl, rfl⟩
          have hown := HJ.out.own
          have hsz := HJ.out.fr.size
          go_wp2_with (at_builtin; refine wpList_app_lit _ rfl (.tmp 27) (.tmp 29) intsTy rfl w.heap.size (.slice A' q c') q _ rfl hown 1 1 _ rfl rfl (by simp [Value.oneCell']) (by omega) (by omega) hsz ?_; intro A3 c3 w4 hown4 hg4 hat4)
          have HJ5 := Lib.hid (HJ.out.more HPB.out hown4 hg4)
          clear hown4 hg4 hat4 hown
          go_roundg (8 - (k + 1))
          case measure => omega
          case rel => exact ⟨k + 1, A3, q + 1, c3, by omega, rfl, by go_num, rfl, HJ5⟩
    · obtain rfl : k = 8 := by omega
      go_wp2_with fail
      go_ret
      unfold IntsOut
      rw [HR.out]
      exact ⟨A', c', q, HJ.out.len, rfl, HJ.out.own, HJ.out.fr⟩
end Go.Proofs.YtfakgidimekikaaGreat
namespace Go.Proofs.YtfakgidimekikaaGreat
theorem orderN_right {L : List Nd} (h : RightG L) : orderN L = sortN L := by unfold orderN; rw [if_pos (checkN_zero.2 h)]
theorem belN_take (L : List Nd) (id : Int) (l : List Int) (k : Nat) (x : Int) (hx : l[k]? = some x) : belN L id (l.take (k + 1)) [] = if (getN L x).fr.any (belB id (belN L id (l.take k) [])) then belN L id (l.take k) [] ++ [x] else belN L id (l.take k) [] := by
  rw [List.take_add_one, hx]
  exact belN_snoc L id x (l.take k) []
theorem getN_fr {L : List Nd} (hu : (idsN L).Nodup) {n : Nd} (hn : n ∈ L) : getN L n.id = n := getN_some (findN_one hu hn)
theorem edge_of {L : List Nd} (hu : (idsN L).Nodup) {n : Nd} (hn : n ∈ L) {f : Int} (hf : f ∈ n.fr) : Edge L n.id f := ⟨n, findN_one hu hn, hf⟩
theorem belN_spec {L : List Nd} (h : RightG L) (id : Int) : ∀ k, k ≤ (sortN L).length → ∀ x, x ∈ belN L id ((sortN L).take k) [] ↔ x ∈ (sortN L).take k ∧ ∃ s, aboveN L id s x = true
  | 0, _, x => by simp [belN]
  | k + 1, hk, x => by
    have ih := belN_spec h id k (by omega)
    obtain ⟨y, hy⟩ : ∃ y, (sortN L)[k]? = some y := ⟨_, List.getElem?_eq_getElem (by omega)⟩
    obtain ⟨n, hn, he, hf⟩ := (sortN_ord L).each k y hy
    have hkey : (getN L y).fr.any (belB id (belN L id ((sortN L).take k) [])) = true ↔ ∃ s, aboveN L id s y = true := by
      rw [← he, getN_fr h.uni hn, List.any_eq_true]
      constructor
      · rintro ⟨f, hff, hb⟩
        unfold belB at hb
        rw [Bool.or_eq_true] at hb
        rcases hb with hb | hb
        · have : f = id := by simpa using hb
          subst this
          exact ⟨1, aboveN_edge 0 (edge_of h.uni hn hff)⟩
        · obtain ⟨_, s, hs⟩ := (ih f).1 (hasI_iff.1 hb)
          exact ⟨s + 1, aboveN_step (edge_of h.uni hn hff) hs⟩
      · rintro ⟨s, hs⟩
        cases s with
        | zero => cases hs
        | succ s =>
          obtain ⟨f, ⟨m, hm, hfm⟩, hh⟩ := aboveN_cases hs
          have hmn : m = n := by
            have := findN_one h.uni hn
            rw [this] at hm
            injection hm with hm
            exact hm.symm
          subst hmn
          refine ⟨f, hfm, ?_⟩
          unfold belB
          rw [Bool.or_eq_true]
          rcases hh with rfl | hh
          · left; simp
          · right
            exact hasI_iff.2 ((ih f).2 ⟨hf f hfm, s, hh⟩)
    rw [belN_take L id (sortN L) k y hy]
    have htk : (sortN L).take (k + 1) = (sortN L).take k ++ [y] := by rw [List.take_add_one, hy]; rfl
    rw [htk]
    by_cases hb : (getN L y).fr.any (belB id (belN L id ((sortN L).take k) [])) = true
    · rw [if_pos hb]
      obtain ⟨s, hs⟩ := hkey.1 hb
      constructor
      · intro hx
        rcases List.mem_append.1 hx with hx | hx
        · obtain ⟨h1, h2⟩ := (ih x).1 hx
          exact ⟨List.mem_append.2 (.inl h1), h2⟩
        · have := List.mem_singleton.1 hx
          subst this
          exact ⟨by simp, s, hs⟩
      · rintro ⟨hx, h2⟩
        rcases List.mem_append.1 hx with hx | hx
        · exact List.mem_append.2 (.inl ((ih x).2 ⟨hx, h2⟩))
        · exact List.mem_append.2 (.inr hx)
    · rw [if_neg hb]
      constructor
      · intro hx
        obtain ⟨h1, h2⟩ := (ih x).1 hx
        exact ⟨List.mem_append.2 (.inl h1), h2⟩
      · rintro ⟨hx, h2⟩
        rcases List.mem_append.1 hx with hx | hx
        · exact (ih x).2 ⟨hx, h2⟩
        · have := List.mem_singleton.1 hx
          subst this
          exact absurd (hkey.2 h2) hb
theorem belN_nodup (L : List Nd) (id : Int) (l : List Int) (hl : l.Nodup) : ∀ k, (belN L id (l.take k) []).Nodup ∧ ∀ x ∈ belN L id (l.take k) [], x ∈ l.take k
  | 0 => by simp [belN]
  | k + 1 => by
    obtain ⟨h1, h2⟩ := belN_nodup L id l hl k
    cases hy : l[k]? with
    | none =>
      have hlen : l.length ≤ k := by
        rcases Nat.lt_or_ge k l.length with h | h
        · rw [List.getElem?_eq_getElem h] at hy; cases hy
        · exact h
      rw [List.take_of_length_le (by omega)]
      rw [List.take_of_length_le hlen] at h1 h2
      exact ⟨h1, h2⟩
    | some y =>
      have htk : l.take (k + 1) = l.take k ++ [y] := by rw [List.take_add_one, hy]; rfl
      rw [belN_take L id l k y hy, htk]
      split
      · have hn : y ∉ l.take k := by
          have h3 : (l.take (k + 1)).Nodup := hl.sublist (List.take_sublist _ _)
          rw [htk, List.nodup_append] at h3
          exact fun hm => h3.2.2 y hm y (by simp) rfl
        refine ⟨?_, fun x hx => ?_⟩
        · rw [List.nodup_append]
          refine ⟨h1, by simp, fun a ha b hb => ?_⟩
          have := List.mem_singleton.1 hb
          subst this
          rintro rfl
          exact hn (h2 _ ha)
        · rcases List.mem_append.1 hx with hx | hx
          · exact List.mem_append.2 (.inl (h2 x hx))
          · exact List.mem_append.2 (.inr hx)
      · exact ⟨h1, fun x hx => List.mem_append.2 (.inl (h2 x hx))⟩
theorem belowN_mem {L : List Nd} (h : RightG L) {id x : Int} : x ∈ belowN L id ↔ x ∈ idsN L ∧ ∃ s, aboveN L id s x = true := by
  unfold belowN
  rw [(srt_perm _).mem_iff, orderN_right h]
  have := belN_spec h id (sortN L).length (Nat.le_refl _) x
  rw [List.take_length] at this
  rw [this]
  constructor
  · rintro ⟨h1, h2⟩
    exact ⟨(sortN_ord L).sub x h1, h2⟩
  · rintro ⟨h1, h2⟩
    obtain ⟨n, hn, e⟩ := List.mem_map.1 h1
    exact ⟨by rw [← e]; exact complete_all h.complete hn, h2⟩
theorem belowN_rises {L : List Nd} (h : RightG L) (id : Int) : (belowN L id).Pairwise (· < ·) := by
  unfold belowN
  rw [orderN_right h]
  have h1 := srt_sorted (belN L id (sortN L) [])
  have h2 := (belN_nodup L id (sortN L) (sortN_ord L).nodup (sortN L).length).1
  rw [List.take_length] at h2
  have h3 := List.nodup_iff_pairwise_ne.1 ((srt_perm _).nodup_iff.2 h2)
  exact (List.Pairwise.and h1 h3).imp fun h => by omega
theorem above_short {L : List Nd} {r : Int → Nat} (hr : ∀ n ∈ L, ∀ f ∈ n.fr, r f < r n.id) {t : Int} : ∀ {s : Nat} {f : Int}, aboveN L t s f = true → aboveN L t (r f) f = true
  | 0, _, h => by cases h
  | s + 1, f, h => by
    obtain ⟨k, ⟨n, hn, hk⟩, hh⟩ := aboveN_cases h
    have h1 := hr n (findN_mem hn) k hk
    rw [findN_id hn] at h1
    rcases hh with rfl | hh
    · exact aboveN_le (aboveN_edge 0 ⟨n, hn, hk⟩) (by omega)
    · exact aboveN_le (aboveN_step ⟨n, hn, hk⟩ (above_short hr hh)) (by omega)
theorem posI_lt {l : List Int} {x : Int} (h : x ∈ l) : posI l x < l.length := (List.getElem?_eq_some_iff.1 (posI_get h)).1
theorem above_nine {L : List Nd} (h : RightG L) {id x : Int} : (∃ s, aboveN L id s x = true) ↔ aboveN L id 9 x = true := by
  constructor
  · rintro ⟨s, hs⟩
    have h1 := above_short (complete_rank h.uni h.complete) hs
    cases s with
    | zero => cases hs
    | succ s =>
      obtain ⟨k, ⟨n, hn, hk⟩, _⟩ := aboveN_cases hs
      have hm := complete_all h.complete (findN_mem hn)
      rw [findN_id hn] at hm
      have h2 := posI_lt hm
      have h3 := h.complete
      have h4 := h.len
      unfold Complete at h3
      exact aboveN_le h1 (by omega)
  · exact fun h => ⟨9, h⟩
theorem rngI_mem {k : Nat} {x : Int} : x ∈ rngI k ↔ 0 ≤ x ∧ x < k := by
  unfold rngI
  rw [List.mem_map]
  constructor
  · rintro ⟨i, hi, rfl⟩
    have := List.mem_range.1 hi
    omega
  · rintro ⟨h1, h2⟩
    exact ⟨x.toNat, List.mem_range.2 (by omega), by omega⟩
theorem rngI_rises (k : Nat) : (rngI k).Pairwise (· < ·) := by
  unfold rngI
  rw [List.pairwise_map]
  exact List.pairwise_lt_range.imp fun h => by omega
theorem ids_in {L : List Nd} (h : RightG L) {x : Int} (hx : x ∈ idsN L) : 0 ≤ x ∧ x < 8 := by
  obtain ⟨n, hn, e⟩ := List.mem_map.1 hx
  have := nodeB_iff.1 (h.each n hn)
  rw [← e]
  exact ⟨this.1, this.2.1⟩
theorem below_right {L : List Nd} (h : RightG L) (id : Int) : belowN L id = belowR L id := by
  refine rises_eq (belowN_rises h id) ((rngI_rises 8).filter _) fun x => ?_
  unfold belowR
  rw [belowN_mem h, List.mem_filter, above_nine h, rngI_mem]
  constructor
  · rintro ⟨h1, h2⟩
    have := ids_in h h1
    exact ⟨⟨by omega, by omega⟩, h2⟩
  · rintro ⟨h1, h2⟩
    refine ⟨?_, h2⟩
    obtain ⟨k, ⟨n, hn, _⟩, _⟩ := aboveN_cases (s := 8) h2
    exact findN_ids.1 ⟨n, hn⟩
theorem child_right {L : List Nd} (h : RightG L) (id : Int) : childN L id = childR L id := by
  refine rises_eq (childN_rises L id) ((rngI_rises 8).filter _) fun x => ?_
  unfold childR
  rw [childN_mem, List.mem_filter, rngI_mem]
  constructor
  · rintro ⟨n, hn, rfl, hf⟩
    have := ids_in h (List.mem_map.2 ⟨n, hn, rfl⟩)
    exact ⟨⟨by omega, by omega⟩, by rw [getN_fr h.uni hn]; exact hasI_iff.2 hf⟩
  · rintro ⟨_, h2⟩
    have h3 := hasI_iff.1 h2
    cases hf : findN L x with
    | none => rw [getN_none hf] at h3; simp [zNd] at h3
    | some n =>
      rw [getN_some hf] at h3
      exact ⟨n, findN_mem hf, findN_id hf, h3⟩
/-- What GraphOrders says of a right graph. -/
theorem order_says {L : List Nd} (h : RightG L) {k : Nat} {id : Int} (hk : (sortN L)[k]? = some id) : ∃ n, findN L id = some n ∧ id ∉ (sortN L).take k ∧ ∀ f ∈ n.fr, f ∈ (sortN L).take k ∧ id ∈ childN L f ∧ id ∈ belowN L f := by
  obtain ⟨n, hn, he, hf⟩ := (sortN_ord L).each k id hk
  subst he
  refine ⟨n, findN_one h.uni hn, fun hm => ?_, fun f hff => ⟨hf f hff, childN_mem.2 ⟨n, hn, rfl, hff⟩, (belowN_mem h).2 ⟨List.mem_map.2 ⟨n, hn, rfl⟩, 1, aboveN_edge 0 (edge_of h.uni hn hff)⟩⟩⟩
  have hl := (sortN_ord L).nodup
  obtain ⟨j, hj⟩ := List.getElem?_of_mem hm
  rw [List.getElem?_take] at hj
  split at hj
  · rename_i hlt
    have h1 := List.getElem?_eq_some_iff.1 hj
    have h2 := List.getElem?_eq_some_iff.1 hk
    obtain ⟨h1a, h1b⟩ := h1
    obtain ⟨h2a, h2b⟩ := h2
    have := (List.pairwise_iff_getElem.1 (List.nodup_iff_pairwise_ne.1 hl)) j k h1a h2a hlt
    exact this (by rw [h1b, h2b])
  · cases hj
theorem above_zero {L : List Nd} (h : RightG L) (n : Nd) (hn : n ∈ L) (hz : n.id ≠ 0) : ∃ s, aboveN L 0 s n.id = true := by
  have hb := nodeB_iff.1 (h.each n hn)
  have hne : ∃ f, f ∈ n.fr := by
    have hkk := hb.2.2.1
    unfold kindB at hkk
    cases hfr : n.fr with
    | cons f l => exact ⟨f, by simp⟩
    | nil =>
      rw [hfr] at hkk
      by_cases k0 : n.kind = 0
      · rw [if_pos k0] at hkk
        simp at hkk
        exact absurd hkk.1 hz
      · rw [if_neg k0] at hkk
        split at hkk
        · simp at hkk
        · split at hkk
          · simp at hkk
          · cases hkk
  obtain ⟨f, hf⟩ := hne
  by_cases f0 : f = 0
  · subst f0
    exact ⟨1, aboveN_edge 0 (edge_of h.uni hn hf)⟩
  · obtain ⟨m, hm, _⟩ := hb.2.2.2.2 f hf
    have hlt := complete_rank h.uni h.complete n hn f hf
    have hid := findN_id hm
    obtain ⟨s, hs⟩ := above_zero h m (findN_mem hm) (by rw [hid]; exact f0)
    rw [hid] at hs
    exact ⟨s + 1, aboveN_step (edge_of h.uni hn hf) hs⟩
termination_by posI (sortN L) n.id
decreasing_by rw [hid]; exact hlt
theorem below_zero {L : List Nd} (h : RightG L) : (belowN L 0).length + 1 = L.length := by
  have hmem : ∀ x, x ∈ belowN L 0 ↔ x ∈ idsN L ∧ x ≠ 0 := by
    intro x
    rw [belowN_mem h]
    constructor
    · rintro ⟨h1, s, hs⟩
      refine ⟨h1, ?_⟩
      rintro rfl
      obtain ⟨r, hr⟩ := h.rank
      have := ranked_above hr hs
      omega
    · rintro ⟨h1, h2⟩
      obtain ⟨n, hn, rfl⟩ := List.mem_map.1 h1
      exact ⟨h1, above_zero h n hn h2⟩
  have hnd := rises_nodup (belowN_rises h 0)
  have hz : 0 ∉ belowN L 0 := fun hm => ((hmem 0).1 hm).2 rfl
  have h1 := nodup_sub (a := 0 :: belowN L 0) (b := idsN L) (List.nodup_cons.2 ⟨hz, hnd⟩) (fun x hx => by
    rcases List.mem_cons.1 hx with rfl | hx
    · exact h.zero
    · exact ((hmem x).1 hx).1)
  have h2 := nodup_sub (a := idsN L) (b := 0 :: belowN L 0) h.uni (fun x hx => by
    by_cases e : x = 0
    · simp [e]
    · exact List.mem_cons_of_mem _ ((hmem x).2 ⟨hx, e⟩))
  simp [idsN] at h1 h2
  omega
end Go.Proofs.YtfakgidimekikaaGreat
namespace Go.Proofs.YtfakgidimekikaaGreat
open Go.RowKit Go.Fb
/-- May a number stand next, by the document? -/
def okR (L : List Nd) (out : List Int) (id : Int) : Bool := match findN L id with
  | none => false
  | some x => readyB out x
/-- The least number so far, from the greatest down. -/
def nxF (p : Int → Bool) : Nat → Int
  | 0 => -1
  | j + 1 => if p (7 - (j : Int)) then 7 - (j : Int) else nxF p j
theorem nxF_least {p : Int → Bool} {v : Int} (hv0 : 0 ≤ v) (hv7 : v ≤ 7) (hp : p v = true) (hl : ∀ u, 0 ≤ u → u < v → p u = false) : ∀ j : Nat, 7 - v < j → j ≤ 8 → nxF p j = v
  | 0, h, _ => by omega
  | j + 1, h, h8 => by
    unfold nxF
    by_cases e : 7 - (j : Int) = v
    · rw [e, hp, if_pos rfl]
    · rw [hl (7 - (j : Int)) (by omega) (by omega)]
      simp only [Bool.false_eq_true, if_false]
      exact nxF_least hv0 hv7 hp hl j (by omega) (by omega)
theorem next_right {L : List Nd} (hr : RightG L) {k : Nat} (hk : (sortF (normL L) k).length = k) (hkn : k < L.length) : ∃ x, (normL L).find? (readyB (sortF (normL L) k)) = some x ∧ nxF (okR L (sortF (normL L) k)) 8 = x.id := by
  cases hf : (normL L).find? (readyB (sortF (normL L) k)) with
  | none =>
    have h1 := sortF_end (L := normL L) (k := k) (by rw [normL_len]; omega) hf
    have h2 := hr.complete
    have h3 : sortN L = sortF (normL L) k := by unfold sortN; rw [← normL_len L, h1]
    unfold Complete at h2
    rw [h3, hk] at h2
    omega
  | some x =>
    refine ⟨x, rfl, ?_⟩
    have hx := List.mem_of_find?_eq_some hf
    have hrd : readyB (sortF (normL L) k) x = true := by simpa using List.find?_some hf
    have hxL := normL_mem.1 hx
    have hid := hr.each x hxL
    unfold nodeB at hid
    simp only [Bool.and_eq_true, decide_eq_true_eq] at hid
    refine nxF_least hid.1 (by have := hid.2.1; omega) ?_ ?_ 8 (by have := hid.2.1; omega) (by omega)
    · unfold okR
      rw [findN_one hr.uni hxL]
      exact hrd
    · intro u hu0 hu
      unfold okR
      cases hy : findN L u with
      | none => rfl
      | some y =>
        simp only
        have hyi := findN_id hy
        have hyn := normL_mem.2 (findN_mem hy)
        cases hb : readyB (sortF (normL L) k) y with
        | false => rfl
        | true =>
          exfalso
          obtain ⟨l1, l2, h1, h2⟩ := (List.find?_eq_some_iff_append.1 hf).2
          have hs := normL_sorted L
          rw [h1] at hyn hs
          rcases List.mem_append.1 hyn with h | h
          · have := h2 y h
            rw [hb] at this
            cases this
          · rcases List.mem_cons.1 h with h | h
            · rw [h] at hyi; omega
            · have h3 := (List.pairwise_append.1 hs).2.1
              have := (List.pairwise_cons.1 h3).1 y h
              omega
/-- What holds in the loop of the document's Order. -/
structure OrJ (L : List Nd) (w wr : World) (k : Nat) (A' : Option Addr) (c' : Nat) : Prop where
  fr : Fr w.heap.size [] w wr
  own : wr.ownsRow w.heap.size 3 1 (.slice A' k c') k ((sortF (normL L) k).map (Value.int .i64))
  len : k = (sortF (normL L) k).length
theorem OrJ.more {L : List Nd} {w w3 w4 : World} {k : Nat} {A' A3 : Option Addr} {c' c3 : Nat} {news : Array Value} {x : Nd} (h : OrJ L w w3 k A' c') (hf : (normL L).find? (readyB (sortF (normL L) k)) = some x)
    (ho : w4.ownsRow w.heap.size 3 1 (.slice A3 (k + 1) c3) (k + 1) ((sortF (normL L) k).map (Value.int .i64) ++ [Value.int .i64 x.id])) (hg : (w3.alloc (.cells news 3)).grownBy w4 (Value.ownBlock (.slice A' k c'))) : OrJ L w w4 (k + 1) A3 c3 := by
  refine ⟨h.fr.trans (Fr.of_app hg h.own h.fr.size), ?_, ?_⟩
  · rw [sortF_some hf, List.map_append]; exact ho
  · rw [sortF_some hf, List.length_append, ← h.len]; rfl
theorem all_take {l : List Int} {out : List Int} {j : Nat} {y : Int} (hy : l[j]? = some y) : (l.take (j + 1)).all (hasI out) = ((l.take j).all (hasI out) && hasI out y) := by
  rw [List.take_add_one, hy, List.all_append]; simp
end Go.Proofs.YtfakgidimekikaaGreat
namespace Go.Proofs.YtfakgidimekikaaGreat
/-- May a node stand at its place, by the document? -/
structure RGood (L : List Nd) (i : Nat) (x : Nd) : Prop where
  id0 : 0 ≤ x.id
  id7 : x.id ≤ 7
  at_ : ixN L x.id = (i : Int)
  k0 : 0 ≤ x.kind
  k2 : x.kind ≤ 2
  p1 : 1 ≤ x.par
  p3 : x.par ≤ 3
  f3 : x.fr.length ≤ 3
  src : x.id = 0 ↔ x.kind = 0
  rt : inTo x.par x.rt 8 = true
  f0 : x.kind = 0 → x.fr.length = 0
  f1 : x.kind = 1 → x.fr.length = 1
  f2 : x.kind = 2 → x.fr.length ≠ 0
  s1 : x.kind = 1 → (chkL x.pg).isSome = true
  s2 : x.kind ≠ 1 → x.pg.length = 0
  fr : ∀ (j : Nat) (f : Int), x.fr[j]? = some f → (∃ m, findN L f = some m ∧ m.kind ≠ 2) ∧ f ∉ x.fr.take j
def srcN (L : List Nd) : Nat := (L.filter fun x => decide (x.kind = 0)).length
theorem srcN_snoc (L : List Nd) (x : Nd) : srcN (L ++ [x]) = srcN L + (if x.kind = 0 then 1 else 0) := by
  unfold srcN
  rw [List.filter_append, List.length_append]
  by_cases h : x.kind = 0 <;> simp [h]
theorem srcN_le (L : List Nd) : srcN L ≤ L.length := List.length_filter_le _ _
theorem id_at {L : List Nd} (hu : (idsN L).Nodup) {i j : Nat} {x y : Nd} (hi : L[i]? = some x) (hj : L[j]? = some y) (h : x.id = y.id) : i = j := by
  have hlt := (List.getElem?_eq_some_iff.1 hi).1
  refine (List.getElem?_inj (l := idsN L) (by simpa [idsN] using hlt) hu).1 ?_
  simp [idsN, hi, hj, h]
theorem ixN_uni {L : List Nd} (hu : (idsN L).Nodup) {i : Nat} {x : Nd} (hx : L[i]? = some x) : ixN L x.id = (i : Int) := by
  have h1 := findN_one hu (List.mem_of_getElem? hx)
  rcases ixN_cases L x.id with ⟨_, h⟩ | ⟨k, y, h2, h3, h4⟩
  · rw [h] at h1; cases h1
  · rw [h1] at h4
    injection h4 with h4
    subst h4
    rw [h2, id_at hu h3 hx rfl]
theorem nodup_take {l : List Int} : l.Nodup ↔ ∀ (j : Nat) (f : Int), l[j]? = some f → f ∉ l.take j := by
  constructor
  · intro h j f hf hm
    obtain ⟨i, hi⟩ := List.getElem?_of_mem hm
    rw [List.getElem?_take] at hi
    split at hi
    · have hjl := (List.getElem?_eq_some_iff.1 hf).1
      have := (List.getElem?_inj (i := i) (j := j) (by omega) h).1 (by rw [hi, hf])
      omega
    · cases hi
  · intro h
    rw [List.nodup_iff_pairwise_ne, List.pairwise_iff_getElem]
    intro i j hi hj hij e
    refine h j l[j] (List.getElem?_eq_getElem hj) ?_
    rw [← e]
    refine List.mem_of_getElem? (i := i) ?_
    rw [List.getElem?_take, if_pos hij, List.getElem?_eq_getElem hi]
theorem right_good {L : List Nd} (h : RightG L) {i : Nat} {x : Nd} (hx : L[i]? = some x) : RGood L i x := by
  obtain ⟨a1, a2, a3, a4, a5⟩ := nodeB_iff.1 (h.each x (List.mem_of_getElem? hx))
  have hz := kindB_zero a3
  unfold right8 at a4
  simp only [Bool.and_eq_true, decide_eq_true_eq] at a4
  unfold kindB at a3
  have hfr : ∀ (j : Nat) (f : Int), x.fr[j]? = some f → ∃ m, findN L f = some m ∧ m.kind ≠ 2 := fun j f hf => a5 f (List.mem_of_getElem? hf)
  by_cases c0 : x.kind = 0
  · rw [if_pos c0] at a3
    simp only [Bool.and_eq_true, decide_eq_true_eq] at a3
    exact ⟨a1, by omega, ixN_uni h.uni hx, by omega, by omega, a4.1.1, a4.1.2, by omega, hz, a4.2, fun _ => a3.2.1, (fun h => by omega), (fun h => by omega), (fun h => by omega), fun _ => a3.2.2, fun j f hf => by
      have := (List.getElem?_eq_some_iff.1 hf).1
      omega⟩
  rw [if_neg c0] at a3
  by_cases c1 : x.kind = 1
  · rw [if_pos c1] at a3
    simp only [Bool.and_eq_true, decide_eq_true_eq] at a3
    exact ⟨a1, by omega, ixN_uni h.uni hx, by omega, by omega, a4.1.1, a4.1.2, by omega, hz, a4.2, (fun h => by omega), fun _ => a3.2.1, (fun h => by omega), fun _ => a3.2.2, (fun h => by omega), fun j f hf => ⟨hfr j f hf, by
      have := (List.getElem?_eq_some_iff.1 hf).1
      obtain rfl : j = 0 := by omega
      simp⟩⟩
  rw [if_neg c1] at a3
  by_cases c2 : x.kind = 2
  · rw [if_pos c2] at a3
    simp only [Bool.and_eq_true, decide_eq_true_eq, unlikeB] at a3
    exact ⟨a1, by omega, ixN_uni h.uni hx, by omega, by omega, a4.1.1, a4.1.2, by omega, hz, a4.2, (fun h => by omega), (fun h => by omega), (fun _ => by omega), (fun h => by omega), fun _ => a3.2.2.2.2, fun j f hf => ⟨hfr j f hf, nodup_take.1 a3.2.2.2.1 j f hf⟩⟩
  · rw [if_neg c2] at a3
    cases a3
theorem one_filt {L : List Nd} (hu : (idsN L).Nodup) {n : Nd} (hn : n ∈ L) : filtN n.id L = [n] := by
  induction L with
  | nil => cases hn
  | cons y L ih =>
    have hu' := List.nodup_cons.1 hu
    rw [filtN_head]
    rcases List.mem_cons.1 hn with h | h
    · subst h
      rw [if_pos rfl]
      congr 1
      unfold filtN
      rw [List.filter_eq_nil_iff]
      intro z hz e
      simp at e
      exact hu'.1 (List.mem_map.2 ⟨z, hz, e⟩)
    · have hne : y.id ≠ n.id := fun e => hu'.1 (List.mem_map.2 ⟨n, h, e.symm⟩)
      rw [if_neg hne]
      exact ih hu'.2 h
theorem right_src {L : List Nd} (h : RightG L) : srcN L = 1 := by
  obtain ⟨z, hz, e⟩ := List.mem_map.1 h.zero
  have h1 := one_filt h.uni hz
  have h2 : L.filter (fun x => decide (x.kind = 0)) = filtN z.id L := by
    unfold filtN
    refine List.filter_congr fun y hy => ?_
    have := kindB_zero (nodeB_iff.1 (h.each y hy)).2.2.1
    rw [e]
    exact decide_eq_decide.2 this.symm
  unfold srcN
  rw [h2, h1]
  rfl
theorem right_above {L : List Nd} (h : RightG L) {x : Nd} : aboveN L x.id 9 x.id = false := by
  obtain ⟨r, hr⟩ := h.rank
  cases hb : aboveN L x.id 9 x.id with
  | false => rfl
  | true => have := ranked_above hr hb; omega
theorem good_right {L : List Nd} (hl : L.length ≤ 8) (hg : ∀ (i : Nat) (x : Nd), L[i]? = some x → RGood L i x) (hs : srcN L = 1) (ha : ∀ x ∈ L, aboveN L x.id 9 x.id = false) : RightG L := by
  have hu : (idsN L).Nodup := by
    rw [List.nodup_iff_pairwise_ne, List.pairwise_iff_getElem]
    intro i j hi hj hij e
    simp [idsN] at hi hj e
    have h1 := (hg i _ (List.getElem?_eq_getElem hi)).at_
    have h2 := (hg j _ (List.getElem?_eq_getElem hj)).at_
    rw [e, h2] at h1
    omega
  have hn : ∀ n ∈ L, nodeB L n = true := by
    intro n hn
    obtain ⟨i, hi⟩ := List.getElem?_of_mem hn
    have g := hg i n hi
    have g1 := g.id0
    have g2 := g.id7
    have g3 := g.k0
    have g4 := g.k2
    have g5 := g.src
    have g6 := g.f3
    refine nodeB_iff.2 ⟨g1, by omega, ?_, ?_, fun f hf => ?_⟩
    · unfold kindB
      by_cases c0 : n.kind = 0
      · rw [if_pos c0]
        simp [g5.2 c0, List.eq_nil_of_length_eq_zero (g.f0 c0), List.eq_nil_of_length_eq_zero (g.s2 (by omega))]
      rw [if_neg c0]
      have hid : ¬ n.id = 0 := fun e => c0 (g5.1 e)
      by_cases c1 : n.kind = 1
      · rw [if_pos c1]
        have := g.s1 c1
        simp [hid, g.f1 c1, this]
      rw [if_neg c1]
      have c2 : n.kind = 2 := by omega
      rw [if_pos c2]
      have hnd := nodup_take.2 fun j f hf => (g.fr j f hf).2
      have := g.f2 c2
      simp only [Bool.and_eq_true, decide_eq_true_eq, unlikeB, Bool.not_eq_true', decide_eq_false_iff_not]
      exact ⟨hid, by omega, g6, hnd, g.s2 (by omega)⟩
    · unfold right8
      rw [g.rt, decide_eq_true ⟨g.p1, g.p3⟩]; rfl
    · obtain ⟨j, hj⟩ := List.getElem?_of_mem hf
      exact (g.fr j f hj).1
  refine ⟨hl, hn, hu, ?_, complete_ranked hu (acyclic_complete hl hn hu ha)⟩
  unfold srcN at hs
  cases hc : L.filter (fun x => decide (x.kind = 0)) with
  | nil => rw [hc] at hs; simp at hs
  | cons z t =>
    have hz : z ∈ L.filter (fun x => decide (x.kind = 0)) := by rw [hc]; simp
    obtain ⟨h1, h2⟩ := List.mem_filter.1 hz
    obtain ⟨i, hi⟩ := List.getElem?_of_mem h1
    exact List.mem_map.2 ⟨z, h1, (hg i z hi).src.2 (by simpa using h2)⟩
theorem checkN_ten {L : List Nd} (hl : L.length ≤ 8) (h : ¬ RightG L) : checkN L = 10 := by
  rcases checkN_three L with h1 | h1 | h1
  · exact absurd (checkN_zero.1 h1) h
  · have := checkN_long.1 h1; omega
  · exact h1
end Go.Proofs.YtfakgidimekikaaGreat
namespace Go.Proofs.YtfakgidimekikaaGreat
open Go.RowKit Go.Fb
def parP (p : Int) : Int := min (max p 1) 3
theorem parP_in (p : Int) : 1 ≤ parP p ∧ parP p ≤ 3 := by unfold parP; omega
def rtk (k : Nat) (p : Int) (g : Nat) : Int := if g < k then (g : Int) % p else 0
def pasN (k : Nat) (p : Int) : Nd := ⟨0, 0, p, [], [], rtk k p⟩
def pasS (p : Int) : Nd := ⟨1, 2, p, [0], [], rtk 8 p⟩
/-- A graph that lets all pass. -/
def passL (p : Int) : List Nd := [pasN 8 (parP p), pasS (parP p)]
theorem pas_set (p : Int) (k : Nat) (hk : k < 8) : (ndA (pasN k p) (.slice none 0 0) (.slice none 0 0)).setIfInBounds (5 + k) (.int .i64 ((k : Int) % p)) = ndA (pasN (k + 1) p) (.slice none 0 0) (.slice none 0 0) := by
  rcases (show k = 0 ∨ k = 1 ∨ k = 2 ∨ k = 3 ∨ k = 4 ∨ k = 5 ∨ k = 6 ∨ k = 7 by omega) with rfl | rfl | rfl | rfl | rfl | rfl | rfl | rfl <;> simp [ndA, pasN, rtk]
theorem pas_get (p : Int) (k : Nat) (hk : k < 8) : (ndA (pasN k p) (.slice none 0 0) (.slice none 0 0))[5 + k]? = some (.int .i64 0) := by
  rcases (show k = 0 ∨ k = 1 ∨ k = 2 ∨ k = 3 ∨ k = 4 ∨ k = 5 ∨ k = 6 ∨ k = 7 by omega) with rfl | rfl | rfl | rfl | rfl | rfl | rfl | rfl <;> simp [ndA, pasN, rtk]
theorem owns_blk {w : World} {g base e size n : Nat} {cs : Array Value} (h : Blk w g e cs) (hs : cs.size = n * size) (hb : base ≤ g) (hn : n ≤ maxLen) : w.ownsRow base e size (.slice (some ⟨g, 0, none⟩) n n) n cs.toList := by
  refine ⟨by simpa using hs, .inr ⟨g, n, cs, rfl, hb, h, Nat.le_refl _, hn, hs, ?_⟩⟩
  exact List.take_of_length_le (by simp [hs])
def PassOut (p : Int) (w : World) (e : Ending) (w' : World) : Prop :=
  ∃ A c M, e = .returned (.slice A 2 c) ∧ Nmd w.heap.size w' A 2 c M ∧ fstN M = passL p ∧ Fr w.heap.size [] w w'
set_option maxRecDepth 100000 in
set_option maxHeartbeats 4000000 in
theorem pass_any (par : Int) (w : World) : Calls Tryz.prog 41 #[.int .i64 par] w (PassOut par w) := by
  obtain ⟨p, hp⟩ : ∃ p, p = min (max par 1) 3 := ⟨_, rfl⟩
  have HP := Lib.hid (show p = parP par from hp)
  have hp1 : 1 ≤ p := by omega
  have hp3 : p ≤ 3 := by omega
  have BA0 := Blk.new w 50 (ndA (pasN 0 p) (.slice none 0 0) (.slice none 0 0))
  have F0 := (Fr.refl w.heap.size [] w).alloc (Nat.le_refl _) (.cells (ndA (pasN 0 p) (.slice none 0 0) (.slice none 0 0)) 50)
  have HB := Lib.hid BA0
  have HF := Lib.hid F0
  clear BA0 F0
  go_enter Tryz.func41, Tryz.ntmps41
  go_wp2_with fail
  rw [← hp]
  have HB1 : RowKit.Hid (Blk (w.alloc (.cells #[.int .i64 0, .int .i64 0, .slice none 0 0, .slice none 0 0, .int .i64 p, .int .i64 0, .int .i64 0, .int .i64 0, .int .i64 0, .int .i64 0, .int .i64 0, .int .i64 0, .int .i64 0] 50)) w.heap.size 50 (ndA (pasN 0 p) (.slice none 0 0) (.slice none 0 0))) := HB
  have HF1 : RowKit.Hid (Fr w.heap.size [] w (w.alloc (.cells #[.int .i64 0, .int .i64 0, .slice none 0 0, .slice none 0 0, .int .i64 p, .int .i64 0, .int .i64 0, .int .i64 0, .int .i64 0, .int .i64 0, .int .i64 0, .int .i64 0, .int .i64 0] 50))) := HF
  clear hp HB HF
  generalize w.alloc (.cells #[.int .i64 0, .int .i64 0, .slice none 0 0, .slice none 0 0, .int .i64 p, .int .i64 0, .int .i64 0, .int .i64 0, .int .i64 0, .int .i64 0, .int .i64 0, .int .i64 0, .int .i64 0] 50) = w1 at *
  go_loopg [4, 11] 8 (fun g s4 s11 wr => ∃ k : Nat, k ≤ 8 ∧ g = 8 - k ∧ s11 = .int .i64 k ∧ RowKit.Hid (Blk wr w.heap.size 50 (ndA (pasN k p) (.slice none 0 0) (.slice none 0 0))) ∧ RowKit.Hid (Fr w.heap.size [] w wr))
  case atStart => exact ⟨0, Nat.zero_le _, rfl, rfl, HB1, HF1⟩
  case round =>
    obtain ⟨k, hk, rfl, rfl, HB, HF⟩ := hrel
    by_cases hk8 : k < 8
    · have hki : (k : Int) < 8 := by omega
      have hk0 : (0 : Int) ≤ (k : Int) := by omega
      have c5 := HB.out.cell (5 + k)
      rw [pas_get p k hk8] at c5
      have z5 := HB.out.frozen (5 + k)
      have HB2 := Lib.hid (HB.out.set_ (5 + k) (.int .i64 ((k : Int) % p)))
      rw [pas_set p k hk8] at HB2
      have HF2 := Lib.hid (HF.out.setCell (p := ⟨w.heap.size, 5 + k, none⟩) (.inl (Nat.le_refl _)) (.int .i64 ((k : Int) % p)))
      have hmod : (k : Int).tmod p = (k : Int) % p := Int.tmod_eq_emod_of_nonneg hk0
      go_wp2_with fail
      go_roundg (8 - (k + 1))
      case measure => omega
      case rel => exact ⟨k + 1, by omega, rfl, by go_num, HB2, HF2⟩
    · obtain rfl : k = 8 := by omega
      obtain ⟨x, hx⟩ : ∃ x, x = pasN 8 p := ⟨_, rfl⟩
      have HX := Lib.hid hx
      rw [← hx] at HB
      clear hx
      have q0 := HB.out.cell 0
      have q1 := HB.out.cell 1
      have q2 := HB.out.cell 2
      have q3 := HB.out.cell 3
      have q4 := HB.out.cell 4
      have q5 := HB.out.cell 5
      have q6 := HB.out.cell 6
      have q7 := HB.out.cell 7
      have q8 := HB.out.cell 8
      have q9 := HB.out.cell 9
      have q10 := HB.out.cell 10
      have q11 := HB.out.cell 11
      have q12 := HB.out.cell 12
      simp at q0 q1 q2 q3 q4 q5 q6 q7 q8 q9 q10 q11 q12
      have BA := Lib.hid (HB.out.alloc (.cells (ndA x (.slice none 0 0) (.slice none 0 0)) 50))
      have BB := Lib.hid (Blk.new wr 50 (ndA x (.slice none 0 0) (.slice none 0 0)))
      have F2 := Lib.hid (HF.out.alloc HF.out.size (.cells (ndA x (.slice none 0 0) (.slice none 0 0)) 50))
      have hlt := HF.out.size
      have hga := HB.out.lt
      clear HB HF
      go_upto_region 9 with fail
      clear q0 q1 q2 q3 q4 q5 q6 q7 q8 q9 q10 q11 q12
      generalize wr.alloc (.cells (ndA x (.slice none 0 0) (.slice none 0 0)) 50) = w2 at *
      generalize wr.heap.size = gb at *
      have hgb := BB.out.lt
      have b0 := BB.out.cell 0
      have b1 := BB.out.cell 1
      have b2 := BB.out.cell 2
      have z0 := BB.out.frozen 0
      have z1 := BB.out.frozen 1
      have z2 := BB.out.frozen 2
      simp at b0 b1 b2
      go_upto_region 10 with fail
      obtain ⟨y, hy⟩ : ∃ y : Nd, y = ⟨1, 2, x.par, [0], [], x.rt⟩ := ⟨_, rfl⟩
      have BA3 := Lib.hid ((((BA.out.far (p := ⟨gb, 0, none⟩) (by simp; omega) (.int .i64 1)).far (p := ⟨gb, 1, none⟩) (by simp; omega) (.int .i64 2)).far (p := ⟨gb, 2, none⟩) (by simp; omega) (.slice (some ⟨w2.heap.size, 0, none⟩) 1 1)).alloc (.cells #[.int .i64 0] 3))
      have BB3 := Lib.hid (show Blk ((((w2.setCell ⟨gb, 0, none⟩ (.int .i64 1)).setCell ⟨gb, 1, none⟩ (.int .i64 2)).setCell ⟨gb, 2, none⟩ (.slice (some ⟨w2.heap.size, 0, none⟩) 1 1)).alloc (.cells #[.int .i64 0] 3)) gb 50 (ndA y (.slice (some ⟨w2.heap.size, 0, none⟩) 1 1) (.slice none 0 0)) by
        have := (((BB.out.set_ 0 (.int .i64 1)).set_ 1 (.int .i64 2)).set_ 2 (.slice (some ⟨w2.heap.size, 0, none⟩) 1 1)).alloc (.cells #[.int .i64 0] 3)
        rw [hy]
        simpa using this)
      have BC0 := Blk.new (((w2.setCell ⟨gb, 0, none⟩ (.int .i64 1)).setCell ⟨gb, 1, none⟩ (.int .i64 2)).setCell ⟨gb, 2, none⟩ (.slice (some ⟨w2.heap.size, 0, none⟩) 1 1)) 3 #[.int .i64 0]
      rw [show (((w2.setCell ⟨gb, 0, none⟩ (.int .i64 1)).setCell ⟨gb, 1, none⟩ (.int .i64 2)).setCell ⟨gb, 2, none⟩ (.slice (some ⟨w2.heap.size, 0, none⟩) 1 1)).heap.size = w2.heap.size by simp [World.setCell]] at BC0
      have BC3 := Lib.hid BC0
      have F3 := Lib.hid ((((F2.out.setCell (p := ⟨gb, 0, none⟩) (.inl hlt) (.int .i64 1)).setCell (p := ⟨gb, 1, none⟩) (.inl hlt) (.int .i64 2)).setCell (p := ⟨gb, 2, none⟩) (.inl hlt) (.slice (some ⟨w2.heap.size, 0, none⟩) 1 1)).alloc (by have := F2.out.size; simp [World.setCell]; exact this) (.cells #[.int .i64 0] 3))
      have HY := Lib.hid hy
      clear BA BB F2 b0 b1 b2 z0 z1 z2 BC0 hy
      generalize (((w2.setCell ⟨gb, 0, none⟩ (.int .i64 1)).setCell ⟨gb, 1, none⟩ (.int .i64 2)).setCell ⟨gb, 2, none⟩ (.slice (some ⟨w2.heap.size, 0, none⟩) 1 1)).alloc (.cells #[.int .i64 0] 3) = w3 at *
      generalize w2.heap.size = g2 at *
      have a0 := BA3.out.cell 0
      have a1 := BA3.out.cell 1
      have a2 := BA3.out.cell 2
      have a3 := BA3.out.cell 3
      have a4 := BA3.out.cell 4
      have a5 := BA3.out.cell 5
      have a6 := BA3.out.cell 6
      have a7 := BA3.out.cell 7
      have a8 := BA3.out.cell 8
      have a9 := BA3.out.cell 9
      have a10 := BA3.out.cell 10
      have a11 := BA3.out.cell 11
      have a12 := BA3.out.cell 12
      simp at a0 a1 a2 a3 a4 a5 a6 a7 a8 a9 a10 a11 a12
      have b0 := BB3.out.cell 0
      have b1 := BB3.out.cell 1
      have b2 := BB3.out.cell 2
      have b3 := BB3.out.cell 3
      have b4 := BB3.out.cell 4
      have b5 := BB3.out.cell 5
      have b6 := BB3.out.cell 6
      have b7 := BB3.out.cell 7
      have b8 := BB3.out.cell 8
      have b9 := BB3.out.cell 9
      have b10 := BB3.out.cell 10
      have b11 := BB3.out.cell 11
      have b12 := BB3.out.cell 12
      simp at b0 b1 b2 b3 b4 b5 b6 b7 b8 b9 b10 b11 b12
      go_wp2_with fail
      go_ret
      have hx := HX.out
      have hy := HY.out
      subst hx
      have hg2 : w.heap.size ≤ g2 := by omega
      have B4 := Blk.new w3 50 (ndA (pasN 8 p) (.slice none 0 0) (.slice none 0 0) ++ ndA y (.slice (some ⟨g2, 0, none⟩) 1 1) (.slice none 0 0))
      have BC4 := BC3.out.alloc (.cells (ndA (pasN 8 p) (.slice none 0 0) (.slice none 0 0) ++ ndA y (.slice (some ⟨g2, 0, none⟩) 1 1) (.slice none 0 0)) 50)
      have F4 := F3.out.alloc F3.out.size (.cells (ndA (pasN 8 p) (.slice none 0 0) (.slice none 0 0) ++ ndA y (.slice (some ⟨g2, 0, none⟩) 1 1) (.slice none 0 0)) 50)
      have hc3 := BC3.out.lt
      have h3 := F3.out.size
      refine ⟨some ⟨w3.heap.size, 0, none⟩, 2, [(pasN 8 p, .slice none 0 0, .slice none 0 0), (y, .slice (some ⟨g2, 0, none⟩) 1 1, .slice none 0 0)], rfl, ⟨rfl, owns_blk B4 rfl h3 (by unfold maxLen; omega), ?_⟩, ?_, F4⟩
      · intro m hm
        simp only [List.mem_cons, List.not_mem_nil, or_false] at hm
        have hoff : Off (some w3.heap.size) (.slice none 0 0) := by intro A n c hv hn; injection hv; omega
        have hfre : Fresh w.heap.size (.slice none 0 0) := by intro A n c hv hn; injection hv; omega
        rcases hm with rfl | rfl
        · exact ⟨⟨⟨none, 0, rfl, Reads.none_⟩, ⟨none, 0, rfl, Reads.none_⟩⟩, hoff, hoff, hfre, hfre, thaw_nil _⟩
        · subst hy
          refine ⟨⟨⟨some ⟨g2, 0, none⟩, 1, rfl, (Reads.of_blk (size := 1) (m := 1) BC4 rfl).more (by simp; omega)⟩, ⟨none, 0, rfl, Reads.none_⟩⟩, ?_, hoff, ?_, hfre, thaw_nil _⟩
          · intro A n c hv hn ad ha e
            injection hv with h1 h2 h3
            subst h1
            injection ha with ha
            subst ha
            simp [Value.ownBlock] at e
            omega
          · intro A n c hv hn ad ha
            injection hv with h1 h2 h3
            subst h1
            injection ha with ha
            subst ha
            exact hg2
      · rw [hy, HP.out]
        rfl
end Go.Proofs.YtfakgidimekikaaGreat
namespace Go.Proofs.YtfakgidimekikaaGreat
open Go.RowKit Go.Fb
theorem pas_right8 (p : Int) (h1 : 1 ≤ p) (h3 : p ≤ 3) : right8 p (rtk 8 p) = true := by
  unfold right8 inTo
  rw [Bool.and_eq_true]
  refine ⟨by simp; omega, ?_⟩
  rw [List.all_eq_true]
  intro k hk
  have hk := List.mem_range.1 hk
  have hp : 0 < p := by omega
  have a1 := Int.emod_nonneg (k : Int) (show p ≠ 0 by omega)
  have a2 := Int.emod_lt_of_pos (k : Int) hp
  simp [rtk, hk]
  omega
theorem pass_right (p : Int) : RightG (passL p) := by
  obtain ⟨h1, h3⟩ := parP_in p
  have hr := pas_right8 (parP p) h1 h3
  refine ⟨by simp [passL], ?_, ?_, by simp [passL, idsN, pasN], ⟨fun f => if f = 0 then 0 else 1, ?_⟩⟩
  · intro n hn
    simp only [passL, List.mem_cons, List.not_mem_nil, or_false] at hn
    rcases hn with rfl | rfl
    · simp [nodeB, pasN, kindB, hr]
    · have hu : unlikeB [0] = true := by simp [unlikeB]
      have ha : aboveB (passL p) 0 = false := by simp [aboveB, findN, passL, pasN]
      simp [nodeB, pasS, kindB, hr, hu, ha]
  · simp [passL, idsN, pasN, pasS]
  · intro n hn f hf
    simp only [passL, List.mem_cons, List.not_mem_nil, or_false] at hn
    rcases hn with rfl | rfl
    · simp [pasN] at hf
    · simp [pasS] at hf
      subst hf
      simp [pasS]
theorem pass_order (p : Int) : orderN (passL p) = [0, 1] := by
  have hr := pass_right p
  have hc := checkN_zero.2 hr
  unfold orderN
  rw [if_pos hc]
  have hl : (sortN (passL p)).length = 2 := hr.complete
  have ho := sortN_ord (passL p)
  match hs : sortN (passL p), hl with
  | [a, b], _ =>
    rw [hs] at ho
    obtain ⟨n0, hn0, e0, f0⟩ := ho.each 0 a rfl
    obtain ⟨n1, hn1, e1, f1⟩ := ho.each 1 b rfl
    have hab : a ≠ b := by have := ho.nodup; simp at this; exact this
    simp only [passL, List.mem_cons, List.not_mem_nil, or_false] at hn0 hn1
    have ha : a = 0 := by
      rcases hn0 with rfl | rfl
      · simpa [pasN] using e0.symm
      · have := f0 0 (by simp [pasS])
        simp at this
    have hb : b = 1 := by
      rcases hn1 with rfl | rfl
      · exfalso
        apply hab
        rw [ha, ← e1]; rfl
      · simpa [pasS] using e1.symm
    rw [ha, hb]
theorem checkN_nil : checkN [] = 10 := by
  unfold checkN
  rw [if_neg (by simp), if_neg]
  simp [hasI, idsN]
theorem small_pass {p : Int} {M : List Ndm} (h : fstN M = passL p) : Small M := by
  refine ⟨?_, fun m hm => ?_⟩
  · have := congrArg List.length h
    simp [fstN, passL] at this
    omega
  · have h1 : m.1 ∈ fstN M := List.mem_map.2 ⟨m, hm, rfl⟩
    rw [h] at h1
    simp only [passL, List.mem_cons, List.not_mem_nil, or_false] at h1
    rcases h1 with h1 | h1 <;> rw [h1] <;> simp [pasN, pasS]
def greatN (L : List Nd) : Bool := decide (20 < L.length) || L.any fun x => decide (60 < x.pg.length) || decide (20 < x.fr.length)
set_option maxRecDepth 100000 in
set_option maxHeartbeats 2000000 in
theorem great08_any (A : Option Addr) (c B n : Nat) (M : List Ndm) (w : World) (h : Nds w B A n M) (hB : B ≤ w.heap.size) (hm : n ≤ maxLen) :
    Calls Tryz.prog 52 #[.slice A n c] w fun e w' => e = .returned (.bool (greatN (fstN M))) ∧ Fr w.heap.size [] w w' := by
  unfold maxLen at hm
  obtain ⟨L, hL⟩ : ∃ L, L = fstN M := ⟨_, rfl⟩
  obtain ⟨v, hv⟩ : ∃ v, v = greatN L := ⟨_, rfl⟩
  have hnl : L.length = n := by rw [hL, h.num]; simp [fstN]
  rw [← hL, ← hv]
  have HV := Lib.hid hv
  have HL := Lib.hid hL
  have HNL := Lib.hid hnl
  have H := Lib.hid h
  clear h hL hv hnl
  by_cases h20 : 20 < n
  · have hv : v = true := by rw [HV.out, greatN, HNL.out, decide_eq_true h20]; rfl
    have HVV := Lib.hid hv
    clear hv
    go_enter Tryz.func52, Tryz.ntmps52
    go_wp2_with fail
    go_ret
    exact ⟨by rw [HVV.out]; rfl, Fr.refl _ _ _⟩
  have hn20 : n ≤ 20 := by omega
  have HVA := Lib.hid (show v = L.any (fun x => decide (60 < x.pg.length) || decide (20 < x.fr.length)) by rw [HV.out, greatN, HNL.out, decide_eq_false h20]; rfl)
  go_enter Tryz.func52, Tryz.ntmps52
  go_wp2_with fail
  go_loopg [10] n (fun g s10 wr => ∃ k : Nat, k ≤ n ∧ g = n - k ∧ s10 = .int .i64 k ∧ RowKit.Hid (∀ x ∈ L.take k, (decide (60 < x.pg.length) || decide (20 < x.fr.length)) = false) ∧ RowKit.Hid (Fr w.heap.size [] w wr))
  case atStart => exact ⟨0, Nat.zero_le _, rfl, rfl, Lib.hid (by simp), Lib.hid (Fr.refl _ _ _)⟩
  case round =>
    obtain ⟨k, hk, rfl, rfl, HB, FR⟩ := hrel
    by_cases hkn : k < n
    · have hki : (k : Int) < (n : Int) := by omega
      have hk0 : (0 : Int) ≤ (k : Int) := by omega
      obtain ⟨m, hx⟩ : ∃ m, M[k]? = some m := ⟨_, List.getElem?_eq_getElem (by rw [← H.out.num]; exact hkn)⟩
      have HND := H.out.frw FR.out hB (by simp)
      obtain ⟨b1, o1, rfl, hb1, hc1⟩ := HND.get hx
      have hin := HND.inn m (List.mem_of_getElem? hx)
      have HTK := Lib.hid (show L.take (k + 1) = L.take k ++ [m.1] by rw [HL.out]; exact fst_take hx)
      have HX := Lib.hid (show L[k]? = some m.1 by rw [HL.out]; simp [fstN, hx])
      obtain ⟨x, sf, sp⟩ := m
      have FA := Lib.hid (FR.out.alloc FR.out.size (.cells (ndA x sf sp) 50))
      obtain ⟨⟨Af, cf, hf1, _⟩, ⟨Ap, cp, hp1, _⟩⟩ := hin
      simp only at hf1 hp1 HTK HX
      subst hf1
      subst hp1
      obtain ⟨g0, g1, g2, g3, g4, g5, g6, g7, g8, g9, g10, g11, g12⟩ := ndL_get (x, .slice Af x.fr.length cf, .slice Ap x.pg.length cp)
      have p0 := hc1 0 _ g0
      have p1 := hc1 1 _ g1
      have p2 := hc1 2 _ g2
      have p3 := hc1 3 _ g3
      have p4 := hc1 4 _ g4
      have p5 := hc1 5 _ g5
      have p6 := hc1 6 _ g6
      have p7 := hc1 7 _ g7
      have p8 := hc1 8 _ g8
      have p9 := hc1 9 _ g9
      have p10 := hc1 10 _ g10
      have p11 := hc1 11 _ g11
      have p12 := hc1 12 _ g12
      simp only [Nat.add_zero] at p0
      obtain ⟨nf, hnf⟩ : ∃ z, z = x.fr.length := ⟨_, rfl⟩
      obtain ⟨np, hnp⟩ : ∃ z, z = x.pg.length := ⟨_, rfl⟩
      rw [← hnf] at p2 FA
      rw [← hnp] at p3 FA
      have HNF := Lib.hid hnf
      have HNP := Lib.hid hnp
      clear hc1 hx g0 g1 g2 g3 g4 g5 g6 g7 g8 g9 g10 g11 g12 HND hnf hnp hb1
      by_cases e1 : 60 < np
      · have hv : v = true := by rw [HVA.out]; exact any_take HX.out (by rw [← HNP.out, decide_eq_true e1]; rfl)
        have HVV := Lib.hid hv
        clear hv
        go_wp2_with fail
        go_ret
        exact ⟨by rw [HVV.out]; rfl, FA.out⟩
      · by_cases e2 : 20 < nf
        · have hv : v = true := by rw [HVA.out]; exact any_take HX.out (by rw [← HNF.out, decide_eq_true e2]; simp)
          have HVV := Lib.hid hv
          clear hv
          go_wp2_with fail
          go_ret
          exact ⟨by rw [HVV.out]; rfl, FA.out⟩
        · have HB2 := Lib.hid (show ∀ y ∈ L.take (k + 1), (decide (60 < y.pg.length) || decide (20 < y.fr.length)) = false from fun y hy => by
            rw [HTK.out] at hy
            rcases List.mem_append.1 hy with hy | hy
            · exact HB.out y hy
            · rw [List.mem_singleton.1 hy, ← HNP.out, ← HNF.out, decide_eq_false e1, decide_eq_false e2]; rfl)
          go_wp2_with fail
          go_roundg (n - (k + 1))
          case measure => omega
          case rel => exact ⟨k + 1, by omega, rfl, by go_num, HB2, FA⟩
    · obtain rfl : k = n := by omega
      have hv : v = false := by
        have htk : L.take k = L := List.take_of_length_le (by rw [HNL.out]; exact Nat.le_refl _)
        have h := HB.out
        rw [htk] at h
        rw [HVA.out]
        exact any_none h
      have HVV := Lib.hid hv
      clear hv
      go_wp2_with fail
      go_ret
      exact ⟨by rw [HVV.out]; rfl, FR.out⟩
end Go.Proofs.YtfakgidimekikaaGreat
