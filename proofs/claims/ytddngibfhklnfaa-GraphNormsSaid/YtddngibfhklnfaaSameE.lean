/- Two graphs compared by the document: forebayref08.Same. -/
import Derived.Test.YtddngibfhklnfaaSameC
import Derived.Test.YtddngibfhklnfaaSameD
import Derived.StillTailTactics
namespace Go.Proofs.Ytddngibfhklnfaa
open Go.RowKit Go.Fb
def rsame1 (K : List Nd) (x : Nd) : Bool := match findN K x.id with
  | none => false
  | some y => sameNd x y
def rsameL (L K : List Nd) : Bool := decide (L.length = K.length) && L.all (rsame1 K)
set_option maxRecDepth 100000 in
set_option maxHeartbeats 4000000 in
theorem rsame_any (A A2 : Option Addr) (c c2 B n n2 : Nat) (M K : List Ndm) (w : World) (h : Nds w B A n M) (h2 : Nds w B A2 n2 K) (hB : B ≤ w.heap.size) (hs : Small M) (hs2 : Small K) :
    Calls Try.prog 28 #[.slice A n c, .slice A2 n2 c2] w fun e w' => e = .returned (.bool (rsameL (fstN M) (fstN K))) ∧ Fr w.heap.size [] w w' := by
  have H := Lib.hid h
  have H2 := Lib.hid h2
  have HS := Lib.hid hs
  have HS2 := Lib.hid hs2
  have hm : n ≤ 1000000 := by rw [h.num]; exact hs.1
  have hm2 : n2 ≤ 1000000 := by rw [h2.num]; exact hs2.1
  obtain ⟨vb, hvb⟩ : ∃ b, b = rsameL (fstN M) (fstN K) := ⟨_, rfl⟩
  rw [← hvb]
  have HV := Lib.hid hvb
  clear h h2 hs hs2 hvb
  by_cases hne : n = n2
  case neg =>
    have hv : vb = false := by
      rw [HV.out, rsameL]
      have h1 := H.out.num
      have h2 := H2.out.num
      rw [decide_eq_false (by simp [fstN]; omega)]; rfl
    have HVV := Lib.hid hv
    have he : ((n : Int) != (n2 : Int)) = true := by simp; omega
    clear hv
    go_enter Try.func28, Try.ntmps28
    go_wp2_with fail
    go_ret
    exact ⟨by rw [HVV.out]; rfl, Fr.refl _ _ _⟩
  subst hne
  have HVA := Lib.hid (show vb = (fstN M).all (rsame1 (fstN K)) by
    rw [HV.out, rsameL]
    have h1 := H.out.num
    have h2 := H2.out.num
    rw [decide_eq_true (by simp [fstN]; omega)]; rfl)
  go_enter Try.func28, Try.ntmps28
  go_wp2_with fail
  go_loopg [5] n (fun g s5 wr => ∃ k : Nat, k ≤ n ∧ g = n - k ∧ s5 = .int .i64 k ∧ RowKit.Hid (∀ x ∈ (fstN M).take k, rsame1 (fstN K) x = true) ∧ RowKit.Hid (Fr w.heap.size [] w wr))
  case atStart => exact ⟨0, Nat.zero_le _, rfl, rfl, Lib.hid (by simp), Lib.hid (Fr.refl _ _ _)⟩
  case round =>
    obtain ⟨k, hk, rfl, rfl, HB, FR⟩ := hrel
    by_cases hkn : k < n
    · have hki : (k : Int) < (n : Int) := by omega
      have hk0 : (0 : Int) ≤ (k : Int) := by omega
      obtain ⟨m, hx⟩ : ∃ m, M[k]? = some m := ⟨_, List.getElem?_eq_getElem (by rw [← H.out.num]; exact hkn)⟩
      have HND := H.out.frw FR.out hB (by simp)
      have HND2 := H2.out.frw FR.out hB (by simp)
      obtain ⟨b1, o1, rfl, hb1, hc1⟩ := HND.get hx
      have hin := HND.inn m (List.mem_of_getElem? hx)
      have hsm := HS.out.2 m (List.mem_of_getElem? hx)
      have HX := Lib.hid (show (fstN M)[k]? = some m.1 by simp [fstN, hx])
      have HTK := Lib.hid (fst_take hx)
      obtain ⟨x, sf, sp⟩ := m
      simp only at hsm HX HTK
      have HFI := rfind_any x.id A2 c2 B n K wr HND2 hm
      have hbad : rsame1 (fstN K) x = false → vb = false := fun h => by
        rw [HVA.out, List.all_eq_false]
        exact ⟨x, List.mem_of_getElem? HX.out, by simp [h]⟩
      have HBAD := Lib.hid hbad
      have HGO := Lib.hid (fun (h : rsame1 (fstN K) x = true) => (fun y hy => by
        rw [HTK.out] at hy
        rcases List.mem_append.1 hy with hy | hy
        · exact HB.out y hy
        · rw [List.mem_singleton.1 hy]; exact h : ∀ y ∈ (fstN M).take (k + 1), rsame1 (fstN K) y = true))
      clear hbad
      have hBr : B ≤ wr.heap.size := Nat.le_trans hB FR.out.size
      obtain ⟨⟨Af, cf, hf1, _⟩, ⟨Ap, cp, hp1, _⟩⟩ := id hin
      simp only at hf1 hp1
      subst hf1
      subst hp1
      obtain ⟨g0, g1, g2, g3, g4, g5, g6, g7, g8, g9, g10, g11, g12⟩ := ndL_get (x, .slice Af x.fr.length cf, .slice Ap x.pg.length cp)
      have p0 := hc1 0 _ g0
      have p1 := hc1 1 _ g1
      have p2 := hc1 2 _ g2
      have p3 := hc1 3 _ g3
      have p4 := hc1 4 _ g4
      have p5 := hc1 5 _ g5
      have p6 := hc1 6 _ g6
      have p7 := hc1 7 _ g7
      have p8 := hc1 8 _ g8
      have p9 := hc1 9 _ g9
      have p10 := hc1 10 _ g10
      have p11 := hc1 11 _ g11
      have p12 := hc1 12 _ g12
      simp only [Nat.add_zero] at p0
      clear hc1 g0 g1 g2 g3 g4 g5 g6 g7 g8 g9 g10 g11 g12 hb1
      rcases ixN_cases (fstN K) x.id with ⟨h1, h2⟩ | ⟨i, y, h1, h2, h3⟩
      · rw [h1] at HFI
        have HFI := Lib.hid HFI
        have hv := HBAD.out (by unfold rsame1; rw [h2])
        have HVV := Lib.hid hv
        clear h1 h2 hv HND HND2 hin
        go_wp2_with fail
        refine HFI.out.mono ?_
        rintro e w2 ⟨rfl, rfl⟩
        go_wp2_with fail
        go_quiet (fail)
        go_wp2_with fail
        go_ret
        exact ⟨by rw [HVV.out]; rfl, FR.out.drewN _⟩
      · rw [h1] at HFI
        have HFI := Lib.hid HFI
        have hin2 : i < n := by
          have := (List.getElem?_eq_some_iff.1 h2).1
          simp [fstN] at this
          rw [H2.out.num]
          exact this
        obtain ⟨m2, hx2⟩ : ∃ m, K[i]? = some m := ⟨_, List.getElem?_eq_getElem (by rw [← H2.out.num]; exact hin2)⟩
        have hmx : m2.1 = y := by
          have := h2
          simp [fstN, hx2] at this
          exact this
        obtain ⟨b2, o2, rfl, hb2, hc2⟩ := HND2.get hx2
        have hinn := HND2.inn m2 (List.mem_of_getElem? hx2)
        have hsm2 := HS2.out.2 m2 (List.mem_of_getElem? hx2)
        obtain ⟨y', tf, tp⟩ := m2
        simp only at hmx hsm2
        subst hmx
        have HW := Lib.hid (fun (wx : World) (hx : Fr wr.heap.size [] wr wx) => rnode_any x y' _ _ tf tp B wx (hin.frw hx hBr (by simp)) (hinn.frw hx hBr (by simp)) (Nat.le_trans hBr hx.size) hsm hsm2)
        obtain ⟨⟨Bf, df, kf1, _⟩, ⟨Bp, dp, kp1, _⟩⟩ := hinn
        simp only at kf1 kp1
        subst kf1
        subst kp1
        obtain ⟨t0, t1, t2, t3, h4, h5, h6, h7, h8, h9, h10, h11, h12⟩ := ndL_get (y', .slice Bf y'.fr.length df, .slice Bp y'.pg.length dp)
        have r0 := hc2 0 _ t0
        have r1 := hc2 1 _ t1
        have r2 := hc2 2 _ t2
        have r3 := hc2 3 _ t3
        have r4 := hc2 4 _ h4
        have r5 := hc2 5 _ h5
        have r6 := hc2 6 _ h6
        have r7 := hc2 7 _ h7
        have r8 := hc2 8 _ h8
        have r9 := hc2 9 _ h9
        have r10 := hc2 10 _ h10
        have r11 := hc2 11 _ h11
        have r12 := hc2 12 _ h12
        simp only [Nat.add_zero] at r0
        obtain ⟨sb, hsb⟩ : ∃ b, b = sameNd x y' := ⟨_, rfl⟩
        rw [← hsb] at HW
        have HSB := Lib.hid (show rsame1 (fstN K) x = sb by unfold rsame1; rw [h3, hsb])
        have hii : (i : Int) < (n : Int) := by omega
        have hi0 : (0 : Int) ≤ (i : Int) := by omega
        have hi1 : decide ((i : Int) < 0) = false := decide_eq_false (by omega)
        clear hc2 hx2 h1 h2 h3 hsm hsm2 hb2 hsb HND HND2 hin t0 t1 t2 t3 h4 h5 h6 h7 h8 h9 h10 h11 h12
        go_wp2_with fail
        refine HFI.out.mono ?_
        rintro e w2 ⟨rfl, rfl⟩
        go_upto_region 7 with fail
        go_still_tail 11, (by kernel_rfl)
        change wpList _ _ _ _ _ wr.drew
        have fd := Lib.hid ((Fr.refl wr.heap.size [] wr).drew)
        generalize wr.drew = w5 at *
        have F5 := Lib.hid (FR.out.trans (fd.out.mono (B' := w.heap.size) (L' := []) FR.out.size (by simp)))
        have HW5 := Lib.hid (HW.out w5 fd.out)
        clear fd HW
        cases sb with
        | true =>
          have HB2 := Lib.hid (HGO.out HSB.out)
          go_wp2_with fail
          refine HW5.out.mono ?_
          rintro e w6 ⟨rfl, f6⟩
          have F6 := Lib.hid (F5.out.trans (f6.mono (B' := w.heap.size) (L' := []) F5.out.size (by simp)))
          clear f6
          go_wp2_with fail
          go_roundg (n - (k + 1))
          case measure => omega
          case rel => exact ⟨k + 1, by omega, rfl, by go_num, HB2, F6⟩
        | false =>
          have hv := HBAD.out HSB.out
          have HVV := Lib.hid hv
          clear hv
          go_wp2_with fail
          refine HW5.out.mono ?_
          rintro e w6 ⟨rfl, f6⟩
          have F6 := Lib.hid (F5.out.trans (f6.mono (B' := w.heap.size) (L' := []) F5.out.size (by simp)))
          clear f6
          go_wp2_with fail
          go_ret
          exact ⟨by rw [HVV.out]; rfl, F6.out⟩
    · obtain rfl : k = n := by omega
      have hv : vb = true := by
        have htk : (fstN M).take k = fstN M := List.take_of_length_le (by have := H.out.num; simp [fstN]; omega)
        have h := HB.out
        rw [htk] at h
        rw [HVA.out, List.all_eq_true]
        exact h
      have HVV := Lib.hid hv
      clear hv
      go_wp2_with fail
      go_ret
      exact ⟨by rw [HVV.out]; rfl, FR.out⟩
end Go.Proofs.Ytddngibfhklnfaa
