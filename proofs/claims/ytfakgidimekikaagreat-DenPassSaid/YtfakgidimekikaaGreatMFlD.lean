/- Texts merged into one, for the number of files a claim may have: FlD, FlE. -/
import Derived.Test.YtfakgidimekikaaGreatMFlB
import Derived.Test.YtfakgidimekikaaGreatMRcI
import Derived.Test.YtfakgidimekikaaGreatMF
import Derived.Test.YtfakgidimekikaaGreatMCtA
namespace Go.Proofs.YtfakgidimekikaaGreat
open Go.RowKit Go.Fb
set_option linter.unusedVariables false
def recR (x : Nat → Int) : Bool := recB (x 0) (x 1) (x 2)
/-- The lines that records make. -/
def outR (K : List Int) (l : List (Nat → Int)) : List (Nat → Int) := l.flatMap fun x => outP 0 (x 0) (x 1) (x 2) K
theorem outR_snoc (K : List Int) (l : List (Nat → Int)) (x : Nat → Int) : outR K (l ++ [x]) = outR K l ++ outP 0 (x 0) (x 1) (x 2) K := by unfold outR; rw [List.flatMap_append]; simp
theorem outR_len (K : List Int) (l : List (Nat → Int)) : (outR K l).length = l.length * K.length := by
  unfold outR
  induction l with
  | nil => simp
  | cons x l ih => rw [List.flatMap_cons, List.length_append, ih]; simp [outP]; rw [Nat.succ_mul]; omega
def FlowsOut (K : List Int) (l : List (Nat → Int)) (gt : Nat) (w : World) (e : Ending) (w' : World) : Prop :=
  (l.all recR = false ∧ e = .returned (.tuple #[.pointer none, .int .i64 1]) ∧ Fr w.heap.size [] w w') ∨
  (l.all recR = true ∧ ∃ b0 gf gn gc gk C A n c, e = .returned (.tuple #[.pointer (some ⟨gf, 0, none⟩), .int .i64 0]) ∧ FlD b0 w' gf gn gc gk gt C (outR K l) A n c ∧ w.heap.size ≤ b0 ∧ Fr w.heap.size [] w w')
set_option maxRecDepth 100000 in
set_option maxHeartbeats 8000000 in
theorem flows_any (gt : Nat) (A Ar : Option Addr) (c cr B n nr : Nat) (M : List Ndm) (l : List (Nat → Int)) (w : World) (h : Nds w B A n M) (hB : B ≤ w.heap.size) (hs : Small M) (hr : RightG (fstN M)) (hnr : nr = l.length) (hn : nr ≤ 1000) (hrd : Reads w B 3 Ar nr (cellsR l))
    (hK : ∀ c ∈ childN (fstN M) 0, ∃ x, findN (fstN M) c = some x ∧ x.kind = 2) :
    Calls Tryz.prog 71 #[.slice A n c, .pointer (some ⟨gt, 0, none⟩), .slice Ar nr cr] w (FlowsOut (childN (fstN M) 0) l gt w) := by
  obtain ⟨L, hL⟩ : ∃ L, L = fstN M := ⟨_, rfl⟩
  have HCK := Lib.hid (gcheck_any A c B n M w h hB hs)
  have HMD := Lib.hid (fun (wx : World) (hx : Fr w.heap.size [] w wx) => made_any gt A c B n M wx (h.frw hx hB (by simp)) (Nat.le_trans hB hx.size) hs hr)
  have HCF := Lib.hid (fun (wx : World) (hx : Fr w.heap.size [] w wx) => rccontains_any 102 #[] (fun x => !recR x) Ar cr B nr l wx (enters_of Tryz.func102 (by kernel_rfl) rfl) (fun x w' _ _ => by exact flows1_any x w') hnr (by omega) (hrd.fr hx hB (by simp)) (Nat.le_trans hB hx.size))
  rw [checkN_zero.2 hr] at HCK
  rw [← hL] at HMD hK ⊢
  have hr2 : RightG L := by rw [hL]; exact hr
  have HRG := Lib.hid hr2
  have HRD := Lib.hid hrd
  have HNR := Lib.hid hnr
  have HKS := Lib.hid hK
  obtain ⟨K, hKe⟩ : ∃ K, K = childN L 0 := ⟨_, rfl⟩
  have HKE := Lib.hid hKe
  rw [← hKe] at HKS ⊢
  obtain ⟨ab, hab⟩ : ∃ b, b = l.any (fun x => !recR x) := ⟨_, rfl⟩
  rw [← hab] at HCF
  have HAB := Lib.hid (show l.all recR = !ab by rw [hab, List.not_any_eq_all_not]; simp)
  have hK8 : K.length ≤ 8 := by
    rw [hKe]
    have h1 := kidsN_le L 0 []
    have h2 : (childN L 0).length = (kidsN L 0 []).length := (srt_perm _).length_eq
    have h3 := hr2.len
    simp at h1
    omega
  clear h hs hr hnr hrd hK hKe hab hL hr2
  go_enter Tryz.func71, Tryz.ntmps71
  go_wp2_with fail
  refine HCK.out.mono ?_
  rintro e w1 ⟨rfl, f1⟩
  have F1 := Lib.hid f1
  have HC1 := Lib.hid (HCF.out w1 f1)
  clear f1 HCK HCF
  go_wp2_with fail
  refine HC1.out.mono ?_
  rintro e w2 ⟨rfl, f2⟩
  have F2 := Lib.hid (F1.out.trans (f2.mono (B' := w.heap.size) (L' := []) F1.out.size (by simp)))
  have HM2 := Lib.hid (HMD.out w2 F2.out)
  clear f2 HC1 F1 HMD
  cases ab with
  | true =>
    go_wp2_with fail
    go_ret2
    exact .inl ⟨HAB.out, rfl, F2.out⟩
  | false => ?_
  go_wp2_with fail
  refine HM2.out.mono ?_
  rintro e w3 ⟨lo, gf, gn, gc, gk, M', TN, TC, TK, rfl, hb3, hfl, hgn, f3⟩
  have F3 := Lib.hid (F2.out.trans (f3.mono (B' := w.heap.size) (L' := []) F2.out.size (by simp)))
  obtain ⟨b0, hb0⟩ : ∃ b, b = w3.heap.size := ⟨_, rfl⟩
  obtain ⟨o1, o2, o3, o4, o5⟩ := And.intro hfl.o1 (And.intro hfl.o2 (And.intro hfl.o3 (And.intro hfl.o4 hfl.o5)))
  have hwgn : w.heap.size ≤ gn := Nat.le_trans F2.out.size hgn
  have h0 : ∃ m ∈ M', m.1.id = 0 := by
    have h1 : (0 : Int) ∈ idsN (fstN M') := by rw [hfl.nm]; exact ((normL_perm L).map (fun n : Nd => n.id)).mem_iff.2 HRG.out.zero
    obtain ⟨x, hx, e⟩ := List.mem_map.1 h1
    obtain ⟨m, hm, rfl⟩ := List.mem_map.1 hx
    exact ⟨m, hm, e⟩
  obtain ⟨m0, hm0, he0⟩ := h0
  obtain ⟨Ac, nc, cc, hc1, hc2, hc3, hc4⟩ := hfl.fm.cs m0 (by rw [List.take_length]; exact hm0)
  rw [he0] at hc1 hc2 hc3
  rw [← HKE.out] at hc2 hc3
  have HSN := Lib.hid (show ∀ c ∈ K, SnkAt TN c from fun c hc => by
    obtain ⟨x, hx, hk⟩ := HKS.out c hc
    have hxm : x ∈ fstN M' := by rw [hfl.nm]; exact (normL_perm L).mem_iff.2 (findN_mem hx)
    obtain ⟨m, hm, rfl⟩ := List.mem_map.1 hxm
    obtain ⟨⟨⟨A1, c1, e1, _⟩, ⟨A2, c2, e2, _⟩⟩, _⟩ := hfl.inn m hm
    have h5 := hfl.fm.ns m (by rw [List.take_length]; exact hm)
    rw [findN_id hx] at h5
    exact ⟨m.1, m.2.1, m.2.2, h5, ⟨A1, _, c1, A2, _, c2, e1, e2⟩, hk⟩)
  have HIN := Lib.hid hfl.fm.n
  have HIC := Lib.hid hfl.fm.c
  have HX0 := Lib.hid hc1
  have HNC := Lib.hid hc2
  have HRC := Lib.hid hc3
  have HFC := Lib.hid (fresh_le hc4 (show gf + 1 ≤ lo by omega))
  obtain ⟨C0, hC0⟩ : ∃ C : Int → Option Int, TK = cntT C := by
    refine ⟨fun x => match TK x with | none => none | some _ => some 0, ?_⟩
    funext x
    unfold cntT
    rcases hfl.fm.ki x with e | e
    · simp [e]
    · simp [e]
  have HD3 := Lib.hid (FlD.mk (b0 := b0) (gn := gn) (gc := gc) (gt := gt) (out := []) (A := none) (n := 0) (c := 0) rfl hb3 (by rw [← hC0]; exact hfl.fm.q) (World.ownsRow_nil _ _ _ _))
  rw [← hb0] at HRC
  have hb3s : b0 ≤ w3.heap.size := by omega
  have hb3t : w3.heap.size ≤ b0 := by omega
  have hnc8 : nc ≤ 8 := by rw [hc2]; exact hK8
  have HB0 := Lib.hid hb0
  have HZI := Lib.hid (show ∀ u, (zeroValue 3).run Tryz.prog u = .ok (.int .i64 0) u from fun u => by kernel_rfl)
  clear hfl hc1 hc2 hc3 hc4 f3 HM2 F2 hb3 hC0 hm0 he0 hb0
  go_wp2_with fail
  go_loopg [10, 27] nr (fun g s10 s27 wr => ∃ (k : Nat) (C : Int → Option Int) (A' : Option Addr) (n' c' : Nat), k ≤ nr ∧ g = nr - k ∧ s27 = .int .i64 k ∧ (s10 = undef ∨ ∃ a, s10 = .pointer a) ∧ n' ≤ 8 * k ∧ RowKit.Hid (FlD b0 wr gf gn gc gk gt C (outR K (l.take k)) A' n' c') ∧ RowKit.Hid (Fr b0 [gf, gk] w3 wr))
  case atStart => exact ⟨0, C0, none, 0, 0, Nat.zero_le _, rfl, rfl, .inl rfl, by omega, HD3, Lib.hid (Fr.refl _ _ _)⟩
  case round =>
    clear HD3
    obtain ⟨k, C, A', n', c', hk, rfl, rfl, h10, hn8, D, F⟩ := hrel
    have hszr := F.out.size
    have FW := Lib.hid (F3.out.trans (F.out.mono (B' := w.heap.size) (L' := []) (by omega) (by intro q hq hlt; simp at hq; omega)))
    by_cases hkn : k < nr
    · have hki : (k : Int) < (nr : Int) := by omega
      have hk0 : (0 : Int) ≤ (k : Int) := by omega
      obtain ⟨x, hx⟩ : ∃ x, l[k]? = some x := ⟨_, List.getElem?_eq_getElem (by rw [← HNR.out]; exact hkn)⟩
      have hrl := HRD.out.fr FW.out hB (by simp)
      rw [HNR.out] at hrl
      obtain ⟨b1, of1, rfl, hb1, hc1⟩ := reads_rec hrl hx
      have p0 := hc1 0 (by omega)
      have p1 := hc1 1 (by omega)
      have p2 := hc1 2 (by omega)
      simp only [Nat.add_zero, ← Nat.add_assoc] at p0 p1 p2
      have HTK := Lib.hid (show l.take (k + 1) = l.take k ++ [x] by rw [List.take_add_one, hx]; rfl)
      clear hc1 hrl hx hb1
      have fa := (Fr.refl wr.heap.size [] wr).alloc (Nat.le_refl _) (.cells #[.int .i64 (x 0), .int .i64 (x 1), .int .i64 (x 2)] 76)
      have BX := Lib.hid (Blk.new wr 76 #[.int .i64 (x 0), .int .i64 (x 1), .int .i64 (x 2)])
      have DA := Lib.hid (D.out.mv fa)
      have FA := Lib.hid (F.out.trans (fa.mono (B' := b0) (L' := [gf, gk]) (by omega) (by simp)))
      clear fa D F FW
      go_upto_region 9 with fail
      clear p0 p1 p2
      generalize wr.alloc (.cells #[.int .i64 (x 0), .int .i64 (x 1), .int .i64 (x 2)] 76) = wa at *
      obtain ⟨gx, hgx⟩ : ∃ g, g = wr.heap.size := ⟨_, rfl⟩
      rw [← hgx] at BX ⊢
      have hgx0 : b0 ≤ gx := by omega
      clear hgx hszr
      have q4 : wa.cell? ⟨gf, 4, none⟩ = some (.map (some gk)) := DA.out.blk.cell 4
      have hlc := DA.out.cnt.look Tryz.underlying67 HZI.out 0
      rw [cntT_get] at hlc
      obtain ⟨v, hv⟩ : ∃ v, v = (C 0).getD 0 := ⟨_, rfl⟩
      rw [← hv] at hlc
      obtain ⟨w5, hup, hm5, f5, hs5⟩ := DA.out.cnt.upd Tryz.underlying67 0 (.int .i64 (wrap64 (v + 1)))
      rw [hv, cntU_T] at hm5
      have hltx : gx < wa.heap.size := BX.out.lt
      have BX5 := Lib.hid (BX.out.fr f5 BX.out.lt (by simp; omega))
      have D5 := Lib.hid (show FlD b0 w5 gf gn gc gk gt (cntU C 0) (outR K (l.take k)) A' n' c' from ⟨DA.out.num, DA.out.blk.fr f5 DA.out.blk.lt (by simp; omega), hm5, ownsRow_fr DA.out.row f5 (fun q hq => ⟨(DA.out.row.lt q hq).2, by have := (DA.out.row.lt q hq).1; simp; omega⟩)⟩)
      have F5 := Lib.hid (FA.out.trans (f5.mono (B' := b0) (L' := [gf, gk]) (by omega) (by simp)))
      have hb5 : b0 ≤ w5.heap.size := by omega
      clear hm5 f5 hs5 hv DA FA BX
      go_upto_region 10 with fail
      clear q4 hlc hup
      have HPT := Lib.hid (put_sinks b0 gf gn gc gk gt TN TC (cntU C 0) (outR K (l.take k)) A' n' c' 0 Ac nc cc K (x 0) (x 1) (x 2) w5 D5.out (HIN.out.fr F5.out (by omega) (by simp; omega)) (HIC.out.fr F5.out (by omega) (by simp; omega)) HX0.out HNC.out (HRC.out.frL F5.out (Nat.le_refl _) (fun hn ad ha hm2 => by
        have h1 := HFC.out _ _ _ rfl hn ad ha
        simp at hm2
        omega)) HFC.out HSN.out ⟨o1, o2, o3, by omega, hb5⟩ (by omega))
      have x0 := BX5.out.cell 0
      have x1 := BX5.out.cell 1
      have x2 := BX5.out.cell 2
      simp at x0 x1 x2
      go_wp2_with fail
      refine HPT.out.mono ?_
      rintro e w6 ⟨rfl, ⟨A6, c6, d6, _⟩, f6⟩
      have D6 := Lib.hid (show FlD b0 w6 gf gn gc gk gt (cntL (cntU C 0) K) (outR K (l.take (k + 1))) A6 (n' + nc) c6 by rw [HTK.out, outR_snoc]; exact d6)
      have F6 := Lib.hid (F5.out.trans (f6.mono (B' := b0) (L' := [gf, gk]) hb5 (fun q hq hlt => by
        simp at hq
        rcases hq with e | e | e
        · simp [e]
        · simp [e]
        · have := (D5.out.row.lt q e).1
          omega)))
      clear d6 f6 HPT D5 F5 x0 x1 x2
      go_wp2_with fail
      go_roundg (nr - (k + 1))
      case measure => omega
      case rel => exact ⟨k + 1, _, A6, n' + nc, c6, by omega, rfl, by go_num, .inr ⟨_, rfl⟩, by omega, D6, F6⟩
    · obtain rfl : nr = k := by omega
      have hT : l.take nr = l := List.take_of_length_le (by rw [HNR.out]; exact Nat.le_refl _)
      rw [hT] at D
      clear hT
      go_wp2_with fail
      go_ret2
      exact .inr ⟨HAB.out, b0, gf, gn, gc, gk, C, A', n', c', rfl, D.out, by omega, FW.out⟩
def DRunOut (K : List Int) (l : List (Nat → Int)) (w : World) (e : Ending) (w' : World) : Prop :=
  (l.all recR = false ∧ e = .returned (.tuple #[.slice none 0 0, .int .i64 1]) ∧ Fr w.heap.size [] w w') ∨
  (l.all recR = true ∧ ∃ A n c, n = (outR K l).length ∧ e = .returned (.tuple #[.slice A n c, .int .i64 0]) ∧ Reads w' w'.heap.size 5 A n (cellsLn (outR K l)) ∧ n ≤ c ∧ Fr w.heap.size [] w w')
set_option maxRecDepth 100000 in
set_option maxHeartbeats 4000000 in
theorem drun_any (gt : Nat) (A Ar : Option Addr) (c cr B n nr : Nat) (M : List Ndm) (l : List (Nat → Int)) (w : World) (h : Nds w B A n M) (hB : B ≤ w.heap.size) (hs : Small M) (hr : RightG (fstN M)) (hnr : nr = l.length) (hn : nr ≤ 1000) (hrd : Reads w B 3 Ar nr (cellsR l))
    (hK : ∀ c ∈ childN (fstN M) 0, ∃ x, findN (fstN M) c = some x ∧ x.kind = 2) :
    Calls Tryz.prog 39 #[.slice A n c, .pointer (some ⟨gt, 0, none⟩), .slice Ar nr cr] w (DRunOut (childN (fstN M) 0) l w) := by
  have H := Lib.hid (flows_any gt A Ar c cr B n nr M l w h hB hs hr hnr hn hrd hK)
  obtain ⟨K, hKe⟩ : ∃ K, K = childN (fstN M) 0 := ⟨_, rfl⟩
  rw [← hKe] at H ⊢
  clear h hs hr hnr hrd hK hKe
  go_enter Tryz.func39, Tryz.ntmps39
  go_wp2_with fail
  refine H.out.mono ?_
  rintro e w1 (⟨ha, rfl, f1⟩ | ⟨ha, b0, gf, gn, gc, gk, C, A1, n1, c1, rfl, hd, _, f1⟩)
  · have F1 := Lib.hid f1
    have HA := Lib.hid ha
    clear f1 ha H
    go_wp2_with fail
    go_ret2
    exact .inl ⟨HA.out, rfl, F1.out⟩
  · have F1 := Lib.hid f1
    have HA := Lib.hid ha
    have HD := Lib.hid hd
    have q3 : w1.cell? ⟨gf, 3, none⟩ = some (.slice A1 n1 c1) := hd.blk.cell 3
    clear f1 ha H hd
    go_wp2_with fail
    go_ret2
    have hcap : n1 ≤ c1 := by obtain ⟨_, _, hx, _, hy, _⟩ := ownsRow_shape HD.out.row; injection hx with _ _ hx; omega
    exact .inr ⟨HA.out, A1, n1, c1, HD.out.num, rfl, Reads.of_own HD.out.row, hcap, F1.out⟩
end Go.Proofs.YtfakgidimekikaaGreat
namespace Go.Proofs.YtfakgidimekikaaGreat
open Go.RowKit Go.Fb
set_option linter.unusedVariables false
theorem pass_child (p : Int) : childN (passL p) 0 = [1] := by
  have h : kidsN (passL p) 0 [] = [1] := by simp [kidsN, hasI, passL, pasN, pasS]
  unfold childN
  rw [h]
  exact List.perm_singleton.1 (srt_perm _)
theorem pass_sinks (p : Int) : ∀ c ∈ childN (passL p) 0, ∃ x, findN (passL p) c = some x ∧ x.kind = 2 := by
  intro c hc
  rw [pass_child, List.mem_singleton] at hc
  subst hc
  exact ⟨pasS (parP p), by simp [findN, passL, pasN, pasS], rfl⟩
set_option maxRecDepth 100000 in
set_option maxHeartbeats 4000000 in
theorem awake12_any (w : World) : Calls Tryz.prog 15 #[] w fun e w' => e = .returned (.bool true) ∧ Fr w.heap.size [] w w' := by
  have HN := Lib.hid (cnew_any none 0 0 w.heap.size [] w rfl (by omega) Reads.none_ (Nat.le_refl _))
  go_enter Tryz.func15, Tryz.ntmps15
  go_wp2_with fail
  refine HN.out.mono ?_
  rintro e w1 (⟨hb, _⟩ | ⟨_, rfl, c1, f1⟩)
  · cases hb
  have F1 := Lib.hid f1
  have HP := Lib.hid (pass_any 1 w1)
  clear c1 f1 HN
  go_wp2_with fail
  refine HP.out.mono ?_
  rintro e w2 ⟨A, c, M, rfl, hn, hf, f2⟩
  have F2 := Lib.hid (F1.out.trans (f2.mono (B' := w.heap.size) (L' := []) F1.out.size (by simp)))
  have fa := (Fr.refl w2.heap.size [] w2).alloc (Nat.le_refl _) (.cells #[.int .i64 5, .int .i64 1, .int .i64 0] 76)
  have BA := Blk.new w2 76 #[.int .i64 5, .int .i64 1, .int .i64 0]
  have HND := (hn.nds (L := []) (Fr.refl _ _ _) (by simp)).frw fa (Nat.le_refl _) (by simp)
  have HRN := Lib.hid (by
    have := drun_any (w.heap.size + 1) A (some ⟨w2.heap.size, 0, none⟩) c 1 (w2.heap.size + 1) 2 1 M [fun j => if j = 0 then 5 else if j = 1 then 1 else 0] (w2.alloc (.cells #[.int .i64 5, .int .i64 1, .int .i64 0] 76)) (HND.more (by omega)) (by simp) (small_pass hf) (by rw [hf]; exact pass_right 1) rfl (by omega) (Reads.of_blk BA rfl) (by rw [hf]; exact pass_sinks 1)
    rw [hf, pass_child] at this
    exact this)
  have FA := Lib.hid (F2.out.trans (fa.mono (B' := w.heap.size) (L' := []) F2.out.size (by simp)))
  clear hn hf f2 fa BA HND HP F1 F2
  go_wp2_with fail
  refine HRN.out.mono ?_
  rintro e w3 (⟨hb, _⟩ | ⟨_, A3, n3, c3, hn3, rfl, hr3, hc3, f3⟩)
  · exact absurd hb (by decide)
  have F3 := Lib.hid (FA.out.trans (f3.mono (B' := w.heap.size) (L' := []) FA.out.size (by simp)))
  have hn1 : n3 = 1 := hn3
  subst hn1
  obtain ⟨b, off, rfl, hb, hcc⟩ := reads_ln (l := outR [1] [fun j => if j = 0 then 5 else if j = 1 then 1 else 0]) hr3 (k := 0) (x := lnF 1 0 5 1 0) rfl
  have p0 : w3.cell? ⟨b, off, none⟩ = some (.int .i64 1) := hcc 0 (by omega)
  have p1 : w3.cell? ⟨b, off + 1, none⟩ = some (.int .i64 0) := hcc 1 (by omega)
  have p2 : w3.cell? ⟨b, off + 2, none⟩ = some (.int .i64 5) := hcc 2 (by omega)
  have p3 : w3.cell? ⟨b, off + 3, none⟩ = some (.int .i64 1) := hcc 3 (by omega)
  have p4 : w3.cell? ⟨b, off + 4, none⟩ = some (.int .i64 0) := hcc 4 (by omega)
  have heq : ∀ W, (binOp .eql 26 (.agg #[.int .i64 1, .int .i64 0, .int .i64 5, .int .i64 1, .int .i64 0]) (.agg #[.int .i64 1, .int .i64 0, .int .i64 5, .int .i64 1, .int .i64 0])).run Tryz.prog W = .ok (.bool true) W := fun W => by kernel_rfl
  clear hcc hr3 f3 hb HRN hn3
  go_wp2_with fail
  go_ret
  exact ⟨rfl, F3.out⟩
end Go.Proofs.YtfakgidimekikaaGreat
