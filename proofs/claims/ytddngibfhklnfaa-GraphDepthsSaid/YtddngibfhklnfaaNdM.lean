/- The contract of graph.Below. -/
import Derived.Test.YtddngibfhklnfaaNdL
namespace Go.Proofs.Ytddngibfhklnfaa
open Go.RowKit Go.Fb
def zNd : Nd := ⟨0, 0, 0, [], [], fun _ => 0⟩
/-- A node, or the zero one. -/
def getN (L : List Nd) (id : Int) : Nd := (findN L id).getD zNd
theorem FindOut.get {L : List Nd} {id : Int} {w w' : World} {e : Ending} (h : FindOut L id w e w') : ∃ x sf sp, x = getN L id ∧ e = .returned (.tuple #[.agg (ndA x sf sp), .bool (findN L id).isSome]) ∧ NdIn w' w'.heap.size (x, sf, sp) ∧ Fr w.heap.size [] w w' := by
  obtain ⟨h | ⟨x, sf, sp, h1, h2, h3⟩, hf⟩ := h
  · refine ⟨zNd, .slice none 0 0, .slice none 0 0, ?_, ?_, ⟨⟨none, 0, rfl, Reads.none_⟩, ⟨none, 0, rfl, Reads.none_⟩⟩, hf⟩
    · rw [getN, h.1]; rfl
    · rw [h.2, h.1]; rfl
  · refine ⟨x, sf, sp, ?_, ?_, h3, hf⟩
    · rw [getN, h1]; rfl
    · rw [h2, h1]; rfl
theorem getN_small {M : List Ndm} (h : Small M) (id : Int) : (getN (fstN M) id).fr.length ≤ 1000000 ∧ (getN (fstN M) id).pg.length ≤ 1000000 := by
  unfold getN
  cases hf : findN (fstN M) id with
  | none => simp [zNd]
  | some x =>
    obtain ⟨m, hm, rfl⟩ := List.mem_map.1 (findN_mem hf)
    exact h.2 m hm
def belB (id : Int) (out : List Int) (f : Int) : Bool := decide (f = id) || hasI out f
/-- What stands below a node, as far as it is gone through. -/
def belN (L : List Nd) (id : Int) : List Int → List Int → List Int
  | [], out => out
  | n :: l, out => belN L id l (if (getN L n).fr.any (belB id out) then out ++ [n] else out)
theorem belN_snoc (L : List Nd) (id n : Int) : ∀ (l out : List Int), belN L id (l ++ [n]) out = if (getN L n).fr.any (belB id (belN L id l out)) then belN L id l out ++ [n] else belN L id l out
  | [], _ => rfl
  | _ :: l, _ => belN_snoc L id n l _
theorem belN_le (L : List Nd) (id : Int) : ∀ (l out : List Int), (belN L id l out).length ≤ out.length + l.length
  | [], _ => Nat.le_refl _
  | n :: l, out => by
    have hle : (if (getN L n).fr.any (belB id out) then out ++ [n] else out).length ≤ out.length + 1 := by split <;> simp
    have h := belN_le L id l (if (getN L n).fr.any (belB id out) then out ++ [n] else out)
    show (belN L id l (if (getN L n).fr.any (belB id out) then out ++ [n] else out)).length ≤ out.length + (l.length + 1)
    omega
def belowN (L : List Nd) (id : Int) : List Int := srt (belN L id (orderN L) [])
theorem orderN_le (L : List Nd) : (orderN L).length ≤ 8 := by
  unfold orderN
  split
  · rename_i h
    have hr := checkN_zero.1 h
    rw [hr.complete]
    exact hr.len
  · simp
set_option maxRecDepth 100000 in
set_option maxHeartbeats 1000000 in
theorem belf_any (f id : Int) (gI gO : Nat) (A : Option Addr) (q c B : Nat) (out : List Int) (w : World) (hi : Blk w gI 3 #[.int .i64 id]) (hb : Blk w gO 28 #[.slice A q c]) (hn : q = out.length) (hm : q ≤ 1000000) (hr : Reads w B 1 A q (out.map (Value.int .i64))) (hB : B ≤ w.heap.size) :
    Calls Try.prog 52 #[.int .i64 f, .pointer (some ⟨gI, 0, none⟩), .pointer (some ⟨gO, 0, none⟩)] w fun e w' => e = .returned (.bool (belB id out f)) ∧ Fr w.heap.size [] w w' := by
  have HC := ihas_any f A c B q out w hn hm hr hB
  have i0 := hi.cell 0
  have o0 := hb.cell 0
  simp at i0 o0
  obtain ⟨vb, hvb⟩ : ∃ b, b = belB id out f := ⟨_, rfl⟩
  obtain ⟨hb2, hhb⟩ : ∃ b, b = hasI out f := ⟨_, rfl⟩
  rw [← hhb] at HC
  rw [← hvb]
  have HV := Lib.hid (show vb = (decide (f = id) || hb2) by rw [hvb, hhb]; rfl)
  have HC := Lib.hid HC
  clear hi hb hn hr hvb hhb
  by_cases e : f = id
  · have hv : vb = true := by rw [HV.out, decide_eq_true e]; rfl
    have H := Lib.hid hv
    have he : (f == id) = true := by simpa using e
    clear hv HV HC e
    go_enter Try.func52, Try.ntmps52
    go_wp2_with fail
    go_ret
    exact ⟨by rw [H.out]; rfl, Fr.refl _ _ _⟩
  · have hv : vb = hb2 := by rw [HV.out, decide_eq_false e]; rfl
    have H := Lib.hid hv
    have he : (f == id) = false := by simpa using e
    clear hv HV e
    go_enter Try.func52, Try.ntmps52
    go_wp2_with fail
    refine HC.out.mono ?_
    rintro e w1 ⟨rfl, f1⟩
    have F1 := Lib.hid f1
    clear f1
    go_wp2_with fail
    go_ret
    exact ⟨by rw [H.out]; rfl, F1.out⟩
/-- What holds in the loop of Below. -/
structure BelJ (gI gO : Nat) (id : Int) (L : List Nd) (l : List Int) (w w2 wr : World) (k : Nat) (A' : Option Addr) (q c' : Nat) : Prop where
  fr2 : Fr w.heap.size [] w w2
  blI : Blk w2 gI 3 #[.int .i64 id]
  fr : Fr w2.heap.size [gO] w2 wr
  box : Blk wr gO 28 #[.slice A' q c']
  own : wr.ownsRow w2.heap.size 3 1 (.slice A' q c') q ((belN L id (l.take k) []).map (Value.int .i64))
  len : q = (belN L id (l.take k) []).length
theorem BelJ.mv {gI gO : Nat} {id : Int} {L : List Nd} {l : List Int} {w w2 wr wi : World} {k : Nat} {A' : Option Addr} {q c' : Nat} (h : BelJ gI gO id L l w w2 wr k A' q c') (hf : Fr wr.heap.size [] wr wi) : BelJ gI gO id L l w w2 wi k A' q c' :=
  ⟨h.fr2, h.blI, h.fr.trans (hf.mono (B' := w2.heap.size) (L' := [gO]) h.fr.size (by simp)), h.box.fr hf h.box.lt (by simp), ownsRow_fr h.own hf (fun q hq => ⟨(h.own.lt q hq).2, by simp⟩), h.len⟩
theorem BelJ.bi {gI gO : Nat} {id : Int} {L : List Nd} {l : List Int} {w w2 wr : World} {k : Nat} {A' : Option Addr} {q c' : Nat} (h : BelJ gI gO id L l w w2 wr k A' q c') (hg : gI ≠ gO) : Blk wr gI 3 #[.int .i64 id] := h.blI.fr h.fr h.blI.lt (by simpa using hg)
theorem BelJ.frw {gI gO : Nat} {id : Int} {L : List Nd} {l : List Int} {w w2 wr : World} {k : Nat} {A' : Option Addr} {q c' : Nat} (h : BelJ gI gO id L l w w2 wr k A' q c') (hg : w.heap.size ≤ gO) : Fr w.heap.size [] w wr :=
  h.fr2.trans (h.fr.mono h.fr2.size (by intro q hq hlt; simp at hq; omega))
theorem BelJ.stay {gI gO : Nat} {id n : Int} {L : List Nd} {l : List Int} {w w2 wr : World} {k : Nat} {A' : Option Addr} {q c' : Nat} (h : BelJ gI gO id L l w w2 wr k A' q c') (hn : l[k]? = some n) (hf : (getN L n).fr.any (belB id (belN L id (l.take k) [])) = false) : BelJ gI gO id L l w w2 wr (k + 1) A' q c' := by
  have e : belN L id (l.take (k + 1)) [] = belN L id (l.take k) [] := by
    rw [List.take_add_one, hn]
    show belN L id (l.take k ++ [n]) [] = _
    rw [belN_snoc, hf]; rfl
  exact ⟨h.fr2, h.blI, h.fr, h.box, by rw [e]; exact h.own, by rw [e]; exact h.len⟩
theorem BelJ.more {gI gO : Nat} {id n : Int} {L : List Nd} {l : List Int} {w w2 w3 w4 : World} {k : Nat} {A' A3 : Option Addr} {q c' c3 : Nat} {news : Array Value} (h : BelJ gI gO id L l w w2 w3 k A' q c') (hn : l[k]? = some n) (hf : (getN L n).fr.any (belB id (belN L id (l.take k) [])) = true)
    (ho : w4.ownsRow w2.heap.size 3 1 (.slice A3 (q + 1) c3) (q + 1) ((belN L id (l.take k) []).map (Value.int .i64) ++ [Value.int .i64 n])) (hg : (w3.alloc (.cells news 3)).grownBy w4 (Value.ownBlock (.slice A' q c'))) : BelJ gI gO id L l w w2 (w4.setCell ⟨gO, 0, none⟩ (.slice A3 (q + 1) c3)) (k + 1) A3 (q + 1) c3 := by
  have e : belN L id (l.take (k + 1)) [] = belN L id (l.take k) [] ++ [n] := by
    rw [List.take_add_one, hn]
    show belN L id (l.take k ++ [n]) [] = _
    rw [belN_snoc, hf]; rfl
  have hb4 : Blk w4 gO 28 #[.slice A' q c'] := (h.box.alloc _).grown hg (h.box.ne_own h.own (by decide))
  refine ⟨h.fr2, h.blI, ?_, by simpa using hb4.set_ 0 (.slice A3 (q + 1) c3), ?_, ?_⟩
  · have f4 := Fr.of_app hg h.own h.fr.size
    exact (h.fr.trans (f4.mono (Nat.le_refl _) (by simp))).setCell (.inr (by simp)) _
  · rw [e, List.map_append]
    exact ownsRow_setCell_other ho (fun e => hb4.ne_own ho (by decide) e.symm) _
  · rw [e, List.length_append, ← h.len]; rfl
set_option maxRecDepth 100000 in
set_option maxHeartbeats 4000000 in
theorem below_any (id : Int) (A : Option Addr) (c B n : Nat) (M : List Ndm) (w : World) (h : Nds w B A n M) (hB : B ≤ w.heap.size) (hs : Small M) :
    Calls Try.prog 17 #[.slice A n c, .int .i64 id] w (IntsOut (belowN (fstN M) id) w) := by
  have BI := Lib.hid ((Blk.new w 3 #[.int .i64 id]).alloc (.cells #[.slice none 0 0] 28))
  have BO0 := Blk.new (w.alloc (.cells #[.int .i64 id] 3)) 28 #[.slice none 0 0]
  rw [World.size_alloc] at BO0
  have BO := Lib.hid BO0
  have F1 := Lib.hid (((Fr.refl w.heap.size [] w).alloc (Nat.le_refl _) (.cells #[.int .i64 id] 3)).alloc (by simp) (.cells #[.slice none 0 0] 28))
  have HOR := order_any A c B n M ((w.alloc (.cells #[.int .i64 id] 3)).alloc (.cells #[.slice none 0 0] 28)) (h.frw F1.out hB (by simp)) (Nat.le_trans hB F1.out.size) hs
  have hz1 : ((w.alloc (.cells #[.int .i64 id] 3)).alloc (.cells #[.slice none 0 0] 28)).heap.size = w.heap.size + 1 + 1 := by simp
  have HZ1 := Lib.hid hz1
  obtain ⟨L, hL⟩ : ∃ L, L = fstN M := ⟨_, rfl⟩
  obtain ⟨l, hl⟩ : ∃ l, l = orderN L := ⟨_, rfl⟩
  rw [← hL, ← hl] at HOR
  rw [← hL]
  have hbel : belowN L id = srt (belN L id l []) := by rw [hl]; rfl
  have hl8 : l.length ≤ 8 := by rw [hl]; exact orderN_le L
  have HOR := Lib.hid HOR
  have HL := Lib.hid hL
  have HBEL := Lib.hid hbel
  have HL8 := Lib.hid hl8
  have H := Lib.hid h
  have HS := Lib.hid hs
  clear BO0 h hs hL hl hbel hl8 hz1
  go_enter Try.func17, Try.ntmps17
  go_wp2_with fail
  generalize (w.alloc _).alloc _ = w1 at *
  refine HOR.out.mono ?_
  rintro e w2 ⟨Ao, co, no, hno, rfl, hoo, f2⟩
  have hno8 : no ≤ 8 := by rw [hno]; exact HL8.out
  have HNO := Lib.hid hno
  have RO := Lib.hid (Reads.of_own hoo)
  have HOL := Lib.hid (show ∀ ad, Ao = some ad → ad.block ≠ w.heap.size + 1 from fun ad ha => by
    subst ha
    obtain ⟨A2, c2, hv2, hs2, _⟩ := ownsRow_shape hoo
    injection hv2 with h4 _ _
    subst h4
    have := (hs2 ad rfl).2.2.1
    have hz := HZ1.out
    omega)
  have HJ := Lib.hid (show BelJ w.heap.size (w.heap.size + 1) id L l w w2 w2 0 none 0 0 from ⟨F1.out.trans (f2.mono (B' := w.heap.size) (L' := []) F1.out.size (by simp)), BI.out.fr f2 BI.out.lt (by simp), Fr.refl _ _ _, BO.out.fr f2 BO.out.lt (by simp), World.ownsRow_nil _ _ _ _, rfl⟩)
  clear hno hoo f2 HOR BI BO F1 HZ1
  go_wp2_with fail
  go_loopg [13] no (fun g s13 wr => ∃ (k : Nat) (A' : Option Addr) (q c' : Nat), k ≤ no ∧ g = no - k ∧ s13 = .int .i64 k ∧ RowKit.Hid (BelJ w.heap.size (w.heap.size + 1) id L l w w2 wr k A' q c'))
  case atStart => exact ⟨0, none, 0, 0, Nat.zero_le _, rfl, rfl, HJ⟩
  case round =>
    obtain ⟨k, A', q, c', hk, rfl, rfl, HJ⟩ := hrel
    have hq8 : q ≤ 8 := by
      have h1 := HJ.out.len
      have h2 := belN_le L id (l.take k) []
      have h3 := HL8.out
      rw [List.length_take] at h2
      simp at h2
      omega
    by_cases hkn : k < no
    · have hki : (k : Int) < (no : Int) := by omega
      have hk0 : (0 : Int) ≤ (k : Int) := by omega
      obtain ⟨n1, hn1⟩ : ∃ n1, l[k]? = some n1 := ⟨_, List.getElem?_eq_getElem (by rw [← HNO.out]; exact hkn)⟩
      have HN1 := Lib.hid hn1
      have hrd := RO.out.frL HJ.out.fr (Nat.le_refl _) (fun _ ad ha hm => HOL.out ad ha (by simpa using hm))
      obtain ⟨b1, o1, u1, rfl, hb1, hu1, hc1⟩ := hrd.one hkn
      rw [List.getElem?_map, hn1] at hu1
      simp at hu1
      subst hu1
      have HFI := find_any n1 A c B n M wr (H.out.frw (HJ.out.frw (by omega)) hB (by simp)) (Nat.le_trans hB (HJ.out.frw (by omega)).size) HS.out
      rw [show M.map (·.1) = L from HL.out.symm] at HFI
      have HFI := Lib.hid HFI
      clear hn1 hrd
      go_wp2_with fail
      refine HFI.out.mono ?_
      rintro e w3 hfo
      obtain ⟨x, sf, sp, hx, rfl, hin, f3⟩ := hfo.get
      have HJ3 := Lib.hid (HJ.out.mv f3)
      have HX := Lib.hid hx
      have hsm := getN_small HS.out n1
      rw [← HL.out, ← hx] at hsm
      obtain ⟨⟨Af, cf, hf1, hf2⟩, ⟨Ap, cp, hp1, _⟩⟩ := hin
      simp only at hf1 hp1 hf2
      subst hf1
      subst hp1
      obtain ⟨nf, hnf⟩ : ∃ z, z = x.fr.length := ⟨_, rfl⟩
      obtain ⟨np, hnp⟩ : ∃ z, z = x.pg.length := ⟨_, rfl⟩
      rw [← hnf] at hf2
      rw [← hnf, ← hnp]
      have HNF := Lib.hid hnf
      have hnf1 : nf ≤ 1000000 := by rw [hnf]; exact hsm.1
      have RF3 := Lib.hid hf2
      have fa := (Fr.refl w3.heap.size [] w3).alloc (Nat.le_refl _) (.cells (ndA x (.slice Af nf cf) (.slice Ap np cp)) 38)
      have BX := Lib.hid (Blk.new w3 38 (ndA x (.slice Af nf cf) (.slice Ap np cp)))
      have HJa := Lib.hid (HJ3.out.mv fa)
      have RFa := Lib.hid ((RF3.out.fr fa (Nat.le_refl _) (by simp)).more fa.size)
      obtain ⟨ob, hob⟩ : ∃ b, b = (findN L n1).isSome := ⟨_, rfl⟩
      rw [← hob]
      clear hfo hx hsm f3 HFI hf2 hnf hnp hc1 HJ HJ3 RF3 fa hob
      go_upto_region 6 with fail
      generalize w3.alloc (.cells (ndA x (.slice Af nf cf) (.slice Ap np cp)) 38) = wa at *
      generalize w3.heap.size = gx at *
      have q2 := BX.out.cell 2
      simp at q2
      obtain ⟨out, hout⟩ : ∃ o, o = belN L id (l.take k) [] := ⟨_, rfl⟩
      have HOUT := Lib.hid hout
      have hent := enters_of Try.func52 (by kernel_rfl) rfl
      have HC := jcontains_any 52 #[.pointer (some ⟨w.heap.size, 0, none⟩), .pointer (some ⟨w.heap.size + 1, 0, none⟩)] (belB id out) Af cf wa.heap.size nf x.fr wa hent (fun f w' _ hf => belf_any f id w.heap.size (w.heap.size + 1) A' q c' _ out w' ((HJa.out.mv hf).bi (by omega)) (HJa.out.mv hf).box (by rw [hout]; exact (HJa.out.mv hf).len) (by omega) (by rw [hout]; exact Reads.of_own (HJa.out.mv hf).own) (Nat.le_refl _)) HNF.out hnf1 RFa.out (Nat.le_refl _)
      obtain ⟨b2, hb2⟩ : ∃ b, b = x.fr.any (belB id out) := ⟨_, rfl⟩
      rw [← hb2] at HC
      have HB2 := Lib.hid hb2
      have HC := Lib.hid HC
      clear hout hb2
      cases b2 with
      | false =>
        go_wp2_with fail
        refine HC.out.mono ?_
        rintro e wb ⟨rfl, fb⟩
        have HJb := Lib.hid ((HJa.out.mv fb).stay HN1.out (by rw [← HX.out, ← HOUT.out]; exact HB2.out.symm))
        clear fb HC q2
        go_wp2_with fail
        go_roundg (no - (k + 1))
        case measure => omega
        case rel => exact ⟨k + 1, A', q, c', by omega, rfl, by go_num, HJb⟩
      | true =>
        go_wp2_with fail
        refine HC.out.mono ?_
        rintro e wb ⟨rfl, fb⟩
        have HJb := Lib.hid (HJa.out.mv fb)
        clear fb HC q2
        have o0 := HJb.out.box.cell 0
        simp at o0
        have hown := HJb.out.own
        have hsz := HJb.out.fr.size
        go_wp2_with (at_builtin; refine wpList_app_lit _ rfl (.tmp 27) (.tmp 29) intsTy rfl w2.heap.size (.slice A' q c') q _ rfl hown 1 1 _ rfl rfl (by simp [Value.oneCell']) (by omega) (by omega) hsz ?_; intro A3 c3 w4 hown4 hg4 hat4; have hb4 := (HJb.out.box.alloc (.cells #[.int .i64 n1] 3)).grown hg4 (HJb.out.box.ne_own hown (by decide)); have zb4 := hb4.frozen 0; have cb4 := hb4.cell 0; simp at cb4)
        have HJ5 := Lib.hid (HJb.out.more HN1.out (by rw [← HX.out, ← HOUT.out]; exact HB2.out.symm) hown4 hg4)
        clear hown4 hg4 hat4 hb4 zb4 cb4 hown o0 HJb HJa
        go_roundg (no - (k + 1))
        case measure => omega
        case rel => exact ⟨k + 1, A3, q + 1, c3, by omega, rfl, by go_num, HJ5⟩
    · obtain rfl : k = no := by omega
      have htk : l.take k = l := List.take_of_length_le (by rw [HNO.out]; exact Nat.le_refl _)
      have hown := HJ.out.own
      have hlen := HJ.out.len
      rw [htk] at hown hlen
      obtain ⟨zs, hzs⟩ : ∃ zs, zs = belN L id l [] := ⟨_, rfl⟩
      rw [← hzs] at hown hlen
      have HCH := Lib.hid (show belowN L id = srt zs by rw [hzs]; exact HBEL.out)
      have HO := Lib.hid hown
      have HQ := Lib.hid hlen
      have FR := Lib.hid (HJ.out.frw (by omega))
      have BX := Lib.hid HJ.out.box
      have hs2 : w.heap.size ≤ w2.heap.size := HJ.out.fr2.size
      have o0 := BX.out.cell 0
      simp at o0
      clear htk hzs hown hlen HJ
      rcases Nat.eq_zero_or_pos q with h0 | h0
      · subst h0
        have hz0 : zs = [] := List.eq_nil_of_length_eq_zero HQ.out.symm
        have hs0 : srt zs = [] := by rw [hz0]; simp [srt]
        rw [hs0] at HCH
        have HSS := Lib.hid (Any.slices_Sort_int_none Try.sortI A' c' wr)
        have hown := HO.out
        rw [hz0] at hown
        have HO0 := Lib.hid (ownsRow_base hown hs2)
        clear hz0 hs0 hown HO
        go_wp2_with fail
        refine HSS.out.mono ?_
        rintro e w' ⟨rfl, rfl⟩
        go_wp2_with fail
        go_ret
        unfold IntsOut
        rw [HCH.out]
        exact ⟨A', c', 0, rfl, rfl, HO0.out, FR.out⟩
      · obtain ⟨g, cap, hv, hbg, hlt⟩ := HO.out.form h0
        injection hv with hv1 hv2 hv3
        subst hv1
        subst hv3
        have HSS := Lib.hid (sorti_any wr w2.heap.size g c' q zs HQ.out HO.out (by omega))
        have hgo : w.heap.size + 1 ≠ g := fun e => by
          have hne := BX.out.ne_own HO.out (by decide)
          exact hne (by rw [e]; rfl)
        have HGO := Lib.hid hgo
        clear HO hv2 hgo
        go_wp2_with fail
        refine HSS.out.mono ?_
        rintro e wa ⟨rfl, hown, fa⟩
        have FA := Lib.hid (FR.out.trans (fa.mono (B' := w.heap.size) (L' := []) FR.out.size (by intro q hq hlt; simp at hq; omega)))
        have HO2 := Lib.hid (ownsRow_base hown hs2)
        have o1 := (BX.out.fr fa BX.out.lt (by simpa using HGO.out)).cell 0
        simp at o1
        clear hown fa HSS o0
        go_wp2_with fail
        go_ret
        unfold IntsOut
        rw [HCH.out]
        exact ⟨_, c', q, by rw [srt_len]; exact HQ.out, rfl, HO2.out, FA.out⟩
end Go.Proofs.Ytddngibfhklnfaa
