/- The contract of sink.Window. -/
import Derived.Test.YtdkdhhfejbecdaaLast
namespace Go.Proofs.Ytdkdhhfejbecdaa
open Go.RowKit Go.Fb
theorem vreads_from {w : World} {B n c f : Nat} {A : Option Addr} {l : List (Int × Int)} (h : Reads w B 2 A n (cellsV l)) (hn : n = l.length) (hf : f ≤ n) (hc : n ≤ c) : Reads w B 2 (if c = f then A else A.map (·.add (f * 2))) (n - f) (cellsV (l.drop f)) := by
  have hlen : ∀ l : List (Int × Int), (cellsV l).length = l.length * 2 := fun l => by
    induction l with
    | nil => rfl
    | cons x l ih => rw [cellsV, List.flatMap_cons, List.length_append, ← cellsV, ih]; simp [valC]; omega
  refine ⟨by rw [hlen, List.length_drop, ← hn], fun h0 => ?_⟩
  obtain ⟨b, off, e, hb, hcell⟩ := h.2 (by omega)
  subst e
  rw [if_neg (by omega)]
  refine ⟨b, off + f * 2, ?_, hb, fun j u hu => ?_⟩
  · simp only [Option.map_some, Addr.add]
    split <;> simp_all
  · have : (cellsV l)[f * 2 + j]? = some u := by
      have e1 : l = l.take f ++ l.drop f := (List.take_append_drop f l).symm
      rw [e1, cellsV_app, List.getElem?_append_right (by rw [hlen, List.length_take]; omega), hlen, List.length_take]
      rw [show f * 2 + j - min f l.length * 2 = j by rw [Nat.min_eq_left (by omega)]; omega]
      exact hu
    have h2 := hcell _ _ this
    rw [← Nat.add_assoc] at h2
    exact h2
/-- The sum of the last ones. -/
def winV (v : List (Int × Int)) (many : Int) : Int × Int := sumV (v.drop (v.length - min (max many 0).toNat v.length))
section
variable {base gb gm : Nat} {l : List (Nat → Int)} {E : List (Int × Nat)} {ep : Int} {V : Value}
set_option maxRecDepth 100000 in
set_option maxHeartbeats 2000000 in
theorem window_any (w : World) (h : Bk base gb gm l E ep V w) (hn : l.length ≤ 1000000) (s f k many : Int) : Calls Try.prog 19 #[.pointer (some ⟨gb, 0, none⟩), .int .i64 s, .int .i64 f, .int .i64 k, .int .i64 many] w fun e w' =>
    e = .returned (.agg #[.int .i64 (winV (onlyV l (s, f, k)) many).1, .int .i64 (winV (onlyV l (s, f, k)) many).2]) ∧ Fr w.heap.size [] w w' := by
  have F0 := Lib.hid ((Fr.refl w.heap.size [] w).alloc (Nat.le_refl _) (.cells #[.int .i64 0, .int .i64 0] 32))
  have HO := Lib.hid (bof_any (w.alloc (.cells #[.int .i64 0, .int .i64 0] 32)) (h.keep F0.out) hn s f k)
  have B0 := Lib.hid (Blk.new w 32 #[.int .i64 0, .int .i64 0])
  have hvn := onlyV_le l (s, f, k)
  unfold OnlyOut at HO
  clear h
  generalize onlyV l (s, f, k) = v at *
  obtain ⟨d, hd⟩ : ∃ d, d = min (max many 0).toNat v.length := ⟨_, rfl⟩
  have HW := Lib.hid (show winV v many = sumV (v.drop (v.length - d)) by rw [hd]; rfl)
  have hdi : min (max many 0) (v.length : Int) = (d : Int) := by rw [hd]; omega
  have hdn : d ≤ v.length := by rw [hd]; exact Nat.min_le_right _ _
  go_enter Try.func19, Try.ntmps19
  go_wp2_with fail
  refine HO.out.mono ?_
  rintro e w' ⟨A, c, rfl, hown, hf⟩
  have hr := Reads.of_own hown
  obtain ⟨_, _, he, _, hcap, _⟩ := ownsRow_shape hown
  injection he with he1 _ he2
  subst he1
  subst he2
  have B1 := Lib.hid (B0.out.fr hf B0.out.lt (by simp))
  have F1 := Lib.hid (F0.out.trans (hf.mono (B' := w.heap.size) (L' := []) F0.out.size (by simp)))
  obtain ⟨q, hq⟩ : ∃ q, q = v.length - d := ⟨_, rfl⟩
  have hqi : (v.length : Int) - (d : Int) = (q : Int) := by omega
  have HQ := Lib.hid (vreads_from (f := q) hr rfl (by omega) hcap)
  clear hown hf B0 F0 HO hd hr
  rw [← hq] at HW
  have hdl : v.length - q = (v.drop q).length := by rw [List.length_drop]
  have hqn : q ≤ v.length := by omega
  have HA := Lib.hid (fun A' c' (e : A' = if c = q then A else A.map (·.add (q * 2))) => (by
    have h := gadd_any A' c' w'.heap.size (v.drop q) w' (by rw [← hdl, e]; exact HQ.out) (Nat.le_refl _) (by rw [← hdl]; omega)
    rw [← hdl, ← HW.out] at h
    exact h : Calls Try.prog 60 #[.slice A' (v.length - q) c'] w' fun e w'' => e = .returned (.agg #[.int .i64 (winV v many).1, .int .i64 (winV v many).2]) ∧ Fr w'.heap.size [] w' w''))
  clear HQ HW hdl
  obtain ⟨r, hr⟩ : ∃ r, r = winV v many := ⟨_, rfl⟩
  rw [← hr] at HA
  have HR := Lib.hid hr
  clear hr
  have z0 := B1.out.frozen 0
  generalize v.length = n at *
  have hnb : n ≤ 1000000 := by omega
  have hn0 : ¬ (n : Int) < 0 := by omega
  have hwq : wrap64 (q : Int) = (q : Int) := by unfold wrap64; omega
  by_cases hm : 0 < many
  · by_cases hmn : many < (n : Int)
    · have hx1 : ¬ many < 0 := by omega
      have hx2 : ¬ (n : Int) < many := by omega
      have hmd : many = (d : Int) := by omega
      subst hmd
      clear hdi
      subst hq
      go_wp2_with fail
      refine (HA.out _ _ (by rw [if_neg (by omega)])).mono ?_
      rintro e w2 ⟨rfl, hf⟩
      have B2 := Lib.hid (B1.out.fr hf B1.out.lt (by simp))
      have F2 := Lib.hid (F1.out.trans (hf.mono (B' := w.heap.size) (L' := []) F1.out.size (by simp)))
      have y0 := B2.out.frozen 0
      have y1 := B2.out.frozen 1
      have p0 := B2.out.cell 0
      have p1 := B2.out.cell 1
      simp at p0 p1
      clear hf HA B1 F1 z0
      go_wp2_with fail
      have B5 := Lib.hid (show Blk _ _ _ #[.int .i64 r.1, .int .i64 r.2] from by have := (B2.out.set_ 0 (.int .i64 r.1)).set_ 1 (.int .i64 r.2); simpa using this)
      have F5 := Lib.hid ((F2.out.setCell (p := ⟨w.heap.size, 0, none⟩) (.inl (by simp)) (.int .i64 r.1)).setCell (p := ⟨w.heap.size, 1, none⟩) (.inl (by simp)) (.int .i64 r.2))
      exact bodyPost_ret (results_cell_row rfl _ _ w.heap.size 32 #[.int .i64 r.1, .int .i64 r.2] (0, 0) _ rfl B5.out Try.underlying32 rfl (by kernel_rfl)) rfl ⟨by rw [HR.out], F5.out⟩
    · have hx1 : ¬ many < 0 := by omega
      have hmd : d = n := by omega
      subst hmd
      clear hdi
      have hq0 : q = 0 := by omega
      subst hq0
      clear hq hqi
      have hwz : (wrap64 0).toNat = 0 := by unfold wrap64; omega
      by_cases he : (d : Int) < many
      · by_cases hc : c = 0
        · obtain rfl : d = 0 := by omega
          subst hc
          clear hcap hdn hqn hnb hn0 hwq
          go_wp2_with fail
          refine (HA.out _ _ rfl).mono ?_
          rintro e w2 ⟨rfl, hf⟩
          have B2 := Lib.hid (B1.out.fr hf B1.out.lt (by simp))
          have F2 := Lib.hid (F1.out.trans (hf.mono (B' := w.heap.size) (L' := []) F1.out.size (by simp)))
          have y0 := B2.out.frozen 0
          have y1 := B2.out.frozen 1
          have p0 := B2.out.cell 0
          have p1 := B2.out.cell 1
          simp at p0 p1
          clear hf HA B1 F1 z0
          go_wp2_with fail
          have B5 := Lib.hid (show Blk _ _ _ #[.int .i64 r.1, .int .i64 r.2] from by have := (B2.out.set_ 0 (.int .i64 r.1)).set_ 1 (.int .i64 r.2); simpa using this)
          have F5 := Lib.hid ((F2.out.setCell (p := ⟨w.heap.size, 0, none⟩) (.inl (by simp)) (.int .i64 r.1)).setCell (p := ⟨w.heap.size, 1, none⟩) (.inl (by simp)) (.int .i64 r.2))
          exact bodyPost_ret (results_cell_row rfl _ _ w.heap.size 32 #[.int .i64 r.1, .int .i64 r.2] (0, 0) _ rfl B5.out Try.underlying32 rfl (by kernel_rfl)) rfl ⟨by rw [HR.out], F5.out⟩
        · have hc1 : ¬ 0 = c := fun e => hc e.symm
          go_wp2_with fail
          refine (HA.out _ _ (by rw [if_neg hc]; cases A <;> simp [Addr.add])).mono ?_
          rintro e w2 ⟨rfl, hf⟩
          have B2 := Lib.hid (B1.out.fr hf B1.out.lt (by simp))
          have F2 := Lib.hid (F1.out.trans (hf.mono (B' := w.heap.size) (L' := []) F1.out.size (by simp)))
          have y0 := B2.out.frozen 0
          have y1 := B2.out.frozen 1
          have p0 := B2.out.cell 0
          have p1 := B2.out.cell 1
          simp at p0 p1
          clear hf HA B1 F1 z0
          go_wp2_with fail
          have B5 := Lib.hid (show Blk _ _ _ #[.int .i64 r.1, .int .i64 r.2] from by have := (B2.out.set_ 0 (.int .i64 r.1)).set_ 1 (.int .i64 r.2); simpa using this)
          have F5 := Lib.hid ((F2.out.setCell (p := ⟨w.heap.size, 0, none⟩) (.inl (by simp)) (.int .i64 r.1)).setCell (p := ⟨w.heap.size, 1, none⟩) (.inl (by simp)) (.int .i64 r.2))
          exact bodyPost_ret (results_cell_row rfl _ _ w.heap.size 32 #[.int .i64 r.1, .int .i64 r.2] (0, 0) _ rfl B5.out Try.underlying32 rfl (by kernel_rfl)) rfl ⟨by rw [HR.out], F5.out⟩
      · have hmd : many = (d : Int) := by omega
        subst hmd
        clear he
        by_cases hc : c = 0
        · exfalso; omega
        · have hc1 : ¬ 0 = c := fun e => hc e.symm
          go_wp2_with fail
          refine (HA.out _ _ (by rw [if_neg hc]; cases A <;> simp [Addr.add])).mono ?_
          rintro e w2 ⟨rfl, hf⟩
          have B2 := Lib.hid (B1.out.fr hf B1.out.lt (by simp))
          have F2 := Lib.hid (F1.out.trans (hf.mono (B' := w.heap.size) (L' := []) F1.out.size (by simp)))
          have y0 := B2.out.frozen 0
          have y1 := B2.out.frozen 1
          have p0 := B2.out.cell 0
          have p1 := B2.out.cell 1
          simp at p0 p1
          clear hf HA B1 F1 z0
          go_wp2_with fail
          have B5 := Lib.hid (show Blk _ _ _ #[.int .i64 r.1, .int .i64 r.2] from by have := (B2.out.set_ 0 (.int .i64 r.1)).set_ 1 (.int .i64 r.2); simpa using this)
          have F5 := Lib.hid ((F2.out.setCell (p := ⟨w.heap.size, 0, none⟩) (.inl (by simp)) (.int .i64 r.1)).setCell (p := ⟨w.heap.size, 1, none⟩) (.inl (by simp)) (.int .i64 r.2))
          exact bodyPost_ret (results_cell_row rfl _ _ w.heap.size 32 #[.int .i64 r.1, .int .i64 r.2] (0, 0) _ rfl B5.out Try.underlying32 rfl (by kernel_rfl)) rfl ⟨by rw [HR.out], F5.out⟩
  · obtain rfl : d = 0 := by omega
    clear hdi
    obtain rfl : q = n := by omega
    clear hq hqi
    rw [Nat.sub_self] at HA
    have hwz : (wrap64 0).toNat = 0 := by unfold wrap64; omega
    by_cases hmz : many = 0
    · subst hmz
      by_cases hc : c = q
      · subst hc
        go_wp2_with fail
        refine (HA.out _ _ (by simp)).mono ?_
        rintro e w2 ⟨rfl, hf⟩
        have B2 := Lib.hid (B1.out.fr hf B1.out.lt (by simp))
        have F2 := Lib.hid (F1.out.trans (hf.mono (B' := w.heap.size) (L' := []) F1.out.size (by simp)))
        have y0 := B2.out.frozen 0
        have y1 := B2.out.frozen 1
        have p0 := B2.out.cell 0
        have p1 := B2.out.cell 1
        simp at p0 p1
        clear hf HA B1 F1 z0
        go_wp2_with fail
        have B5 := Lib.hid (show Blk _ _ _ #[.int .i64 r.1, .int .i64 r.2] from by have := (B2.out.set_ 0 (.int .i64 r.1)).set_ 1 (.int .i64 r.2); simpa using this)
        have F5 := Lib.hid ((F2.out.setCell (p := ⟨w.heap.size, 0, none⟩) (.inl (by simp)) (.int .i64 r.1)).setCell (p := ⟨w.heap.size, 1, none⟩) (.inl (by simp)) (.int .i64 r.2))
        exact bodyPost_ret (results_cell_row rfl _ _ w.heap.size 32 #[.int .i64 r.1, .int .i64 r.2] (0, 0) _ rfl B5.out Try.underlying32 rfl (by kernel_rfl)) rfl ⟨by rw [HR.out], F5.out⟩
      · have hc1 : ¬ q = c := fun e => hc e.symm
        go_wp2_with fail
        refine (HA.out _ _ (by rw [if_neg hc])).mono ?_
        rintro e w2 ⟨rfl, hf⟩
        have B2 := Lib.hid (B1.out.fr hf B1.out.lt (by simp))
        have F2 := Lib.hid (F1.out.trans (hf.mono (B' := w.heap.size) (L' := []) F1.out.size (by simp)))
        have y0 := B2.out.frozen 0
        have y1 := B2.out.frozen 1
        have p0 := B2.out.cell 0
        have p1 := B2.out.cell 1
        simp at p0 p1
        clear hf HA B1 F1 z0
        go_wp2_with fail
        have B5 := Lib.hid (show Blk _ _ _ #[.int .i64 r.1, .int .i64 r.2] from by have := (B2.out.set_ 0 (.int .i64 r.1)).set_ 1 (.int .i64 r.2); simpa using this)
        have F5 := Lib.hid ((F2.out.setCell (p := ⟨w.heap.size, 0, none⟩) (.inl (by simp)) (.int .i64 r.1)).setCell (p := ⟨w.heap.size, 1, none⟩) (.inl (by simp)) (.int .i64 r.2))
        exact bodyPost_ret (results_cell_row rfl _ _ w.heap.size 32 #[.int .i64 r.1, .int .i64 r.2] (0, 0) _ rfl B5.out Try.underlying32 rfl (by kernel_rfl)) rfl ⟨by rw [HR.out], F5.out⟩
    · have hlt : many < 0 := by omega
      by_cases hc : c = q
      · subst hc
        go_wp2_with fail
        refine (HA.out _ _ (by simp)).mono ?_
        rintro e w2 ⟨rfl, hf⟩
        have B2 := Lib.hid (B1.out.fr hf B1.out.lt (by simp))
        have F2 := Lib.hid (F1.out.trans (hf.mono (B' := w.heap.size) (L' := []) F1.out.size (by simp)))
        have y0 := B2.out.frozen 0
        have y1 := B2.out.frozen 1
        have p0 := B2.out.cell 0
        have p1 := B2.out.cell 1
        simp at p0 p1
        clear hf HA B1 F1 z0
        go_wp2_with fail
        have B5 := Lib.hid (show Blk _ _ _ #[.int .i64 r.1, .int .i64 r.2] from by have := (B2.out.set_ 0 (.int .i64 r.1)).set_ 1 (.int .i64 r.2); simpa using this)
        have F5 := Lib.hid ((F2.out.setCell (p := ⟨w.heap.size, 0, none⟩) (.inl (by simp)) (.int .i64 r.1)).setCell (p := ⟨w.heap.size, 1, none⟩) (.inl (by simp)) (.int .i64 r.2))
        exact bodyPost_ret (results_cell_row rfl _ _ w.heap.size 32 #[.int .i64 r.1, .int .i64 r.2] (0, 0) _ rfl B5.out Try.underlying32 rfl (by kernel_rfl)) rfl ⟨by rw [HR.out], F5.out⟩
      · have hc1 : ¬ q = c := fun e => hc e.symm
        go_wp2_with fail
        refine (HA.out _ _ (by rw [if_neg hc])).mono ?_
        rintro e w2 ⟨rfl, hf⟩
        have B2 := Lib.hid (B1.out.fr hf B1.out.lt (by simp))
        have F2 := Lib.hid (F1.out.trans (hf.mono (B' := w.heap.size) (L' := []) F1.out.size (by simp)))
        have y0 := B2.out.frozen 0
        have y1 := B2.out.frozen 1
        have p0 := B2.out.cell 0
        have p1 := B2.out.cell 1
        simp at p0 p1
        clear hf HA B1 F1 z0
        go_wp2_with fail
        have B5 := Lib.hid (show Blk _ _ _ #[.int .i64 r.1, .int .i64 r.2] from by have := (B2.out.set_ 0 (.int .i64 r.1)).set_ 1 (.int .i64 r.2); simpa using this)
        have F5 := Lib.hid ((F2.out.setCell (p := ⟨w.heap.size, 0, none⟩) (.inl (by simp)) (.int .i64 r.1)).setCell (p := ⟨w.heap.size, 1, none⟩) (.inl (by simp)) (.int .i64 r.2))
        exact bodyPost_ret (results_cell_row rfl _ _ w.heap.size 32 #[.int .i64 r.1, .int .i64 r.2] (0, 0) _ rfl B5.out Try.underlying32 rfl (by kernel_rfl)) rfl ⟨by rw [HR.out], F5.out⟩
end
end Go.Proofs.Ytdkdhhfejbecdaa
